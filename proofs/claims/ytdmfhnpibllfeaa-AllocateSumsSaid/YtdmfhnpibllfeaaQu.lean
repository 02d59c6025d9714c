/- Functions, evaluated. No condition. -/
import Derived.Test.YtdmfhnpibllfeaaProg
import Derived.Test.YtdmfhnpibllfeaaSqV
namespace Go.Proofs.Ytdmfhnpibllfeaa
open Go Go.Sq
def ti3 : TI := { t := 3, desc := .int .i64, size := 1, bytes := 8, zero := .int .i64 0, τ := .int .i64, eq := false }
theorem tk3 : ti3.ok Try.prog := ⟨Try.underlying3, by kernel_rfl, fun h => by cases h⟩
def ti4 : TI := { t := 4, desc := .bool, size := 1, bytes := 1, zero := .bool false, τ := .bool, eq := false }
theorem tk4 : ti4.ok Try.prog := ⟨Try.underlying4, by kernel_rfl, fun h => by cases h⟩
def ti5 : TI := { t := 5, desc := .int .u8, size := 1, bytes := 1, zero := .int .u8 0, τ := .int .u8, eq := false }
theorem tk5 : ti5.ok Try.prog := ⟨Try.underlying5, by kernel_rfl, fun h => by cases h⟩
def ti21 : TI := { t := 21, desc := .int .i32, size := 1, bytes := 4, zero := .int .i32 0, τ := .int .i32, eq := false }
theorem tk21 : ti21.ok Try.prog := ⟨Try.underlying21, by kernel_rfl, fun h => by cases h⟩
def ti22 : TI := { t := 22, desc := .slice 3, size := 1, bytes := 24, zero := .slice none 0 0, τ := .sl (.int .i64), eq := false }
theorem tk22 : ti22.ok Try.prog := ⟨Try.underlying22, by kernel_rfl, fun h => by cases h⟩
def ti30 : TI := { t := 30, desc := .slice 31, size := 1, bytes := 24, zero := .slice none 0 0, τ := .sl (.int .u16), eq := false }
theorem tk30 : ti30.ok Try.prog := ⟨Try.underlying30, by kernel_rfl, fun h => by cases h⟩
def ti31 : TI := { t := 31, desc := .int .u16, size := 1, bytes := 2, zero := .int .u16 0, τ := .int .u16, eq := false }
theorem tk31 : ti31.ok Try.prog := ⟨Try.underlying31, by kernel_rfl, fun h => by cases h⟩
def ti35 : TI := { t := 35, desc := .array 2 3, size := 2, bytes := 16, zero := .agg #[.int .i64 0, .int .i64 0], τ := .pair (.int .i64) (.int .i64), eq := false }
theorem tk35 : ti35.ok Try.prog := ⟨Try.underlying35, by kernel_rfl, fun h => by cases h⟩
def ti36 : TI := { t := 36, desc := .slice 35, size := 1, bytes := 24, zero := .slice none 0 0, τ := .sl (.pair (.int .i64) (.int .i64)), eq := false }
theorem tk36 : ti36.ok Try.prog := ⟨Try.underlying36, by kernel_rfl, fun h => by cases h⟩
def ti39 : TI := { t := 39, desc := .slice 22, size := 1, bytes := 24, zero := .slice none 0 0, τ := .sl (.sl (.int .i64)), eq := false }
theorem tk39 : ti39.ok Try.prog := ⟨Try.underlying39, by kernel_rfl, fun h => by cases h⟩
def ti42 : TI := { t := 42, desc := .int .u64, size := 1, bytes := 8, zero := .int .u64 0, τ := .int .u64, eq := false }
theorem tk42 : ti42.ok Try.prog := ⟨Try.underlying42, by kernel_rfl, fun h => by cases h⟩
def ti44 : TI := { t := 44, desc := .int .u32, size := 1, bytes := 4, zero := .int .u32 0, τ := .int .u32, eq := false }
theorem tk44 : ti44.ok Try.prog := ⟨Try.underlying44, by kernel_rfl, fun h => by cases h⟩
def ti47 : TI := { t := 47, desc := .int .i16, size := 1, bytes := 2, zero := .int .i16 0, τ := .int .i16, eq := false }
theorem tk47 : ti47.ok Try.prog := ⟨Try.underlying47, by kernel_rfl, fun h => by cases h⟩
def ti55 : TI := { t := 55, desc := .struct #[{ name := "L", type := 22, offset := 0, embedded := false, tag := "", pkgPath := "", byteOffset := 0 }, { name := "At", type := 3, offset := 1, embedded := false, tag := "", pkgPath := "", byteOffset := 24 }], size := 2, bytes := 32, zero := .agg #[.slice none 0 0, .int .i64 0], τ := .pair (.sl (.int .i64)) (.int .i64), eq := true }
theorem tk55 : ti55.ok Try.prog := ⟨Try.underlying55, by kernel_rfl, fun _ => ⟨Try.eqGuardType55, Try.stoodInHeld55⟩⟩
def ti59 : TI := { t := 59, desc := .int .u64, size := 1, bytes := 8, zero := .int .u64 0, τ := .int .u64, eq := false }
theorem tk59 : ti59.ok Try.prog := ⟨Try.underlying59, by kernel_rfl, fun h => by cases h⟩
def types : List TI := [ti3, ti4, ti5, ti21, ti22, ti30, ti31, ti35, ti36, ti39, ti42, ti44, ti47, ti55, ti59]
theorem types_ok : Tys Try.prog types := ⟨tk3, tk4, tk5, tk21, tk22, tk30, tk31, tk35, tk36, tk39, tk42, tk44, tk47, tk55, tk59, trivial⟩
theorem mx : Try.prog.follows .mixedOrders = true := by kernel_rfl
theorem nmr2 : (Try.f2.name == "runtime.NumGoroutine") = false := by kernel_rfl
theorem nmr35 : (Try.f35.name == "runtime.NumGoroutine") = false := by kernel_rfl
theorem nmr47 : (Try.f47.name == "runtime.NumGoroutine") = false := by kernel_rfl
theorem nmr36 : (Try.f36.name == "runtime.NumGoroutine") = false := by kernel_rfl
theorem nmr37 : (Try.f37.name == "runtime.NumGoroutine") = false := by kernel_rfl
theorem nmr38 : (Try.f38.name == "runtime.NumGoroutine") = false := by kernel_rfl
theorem nmr40 : (Try.f40.name == "runtime.NumGoroutine") = false := by kernel_rfl
theorem nmr50 : (Try.f50.name == "runtime.NumGoroutine") = false := by kernel_rfl
theorem nmr53 : (Try.f53.name == "runtime.NumGoroutine") = false := by kernel_rfl
theorem nmr52 : (Try.f52.name == "runtime.NumGoroutine") = false := by kernel_rfl
theorem nmr51 : (Try.f51.name == "runtime.NumGoroutine") = false := by kernel_rfl
theorem nmr48 : (Try.f48.name == "runtime.NumGoroutine") = false := by kernel_rfl
theorem nmr39 : (Try.f39.name == "runtime.NumGoroutine") = false := by kernel_rfl
theorem nmr13 : (Try.f13.name == "runtime.NumGoroutine") = false := by kernel_rfl
theorem nmr15 : (Try.f15.name == "runtime.NumGoroutine") = false := by kernel_rfl
theorem nmr11 : (Try.f11.name == "runtime.NumGoroutine") = false := by kernel_rfl
theorem nmr19 : (Try.f19.name == "runtime.NumGoroutine") = false := by kernel_rfl
theorem nmr12 : (Try.f12.name == "runtime.NumGoroutine") = false := by kernel_rfl
theorem nmr41 : (Try.f41.name == "runtime.NumGoroutine") = false := by kernel_rfl
theorem nmr14 : (Try.f14.name == "runtime.NumGoroutine") = false := by kernel_rfl
theorem nmr3 : (Try.f3.name == "runtime.NumGoroutine") = false := by kernel_rfl
theorem nmr4 : (Try.f4.name == "runtime.NumGoroutine") = false := by kernel_rfl
theorem nmr49 : (Try.f49.name == "runtime.NumGoroutine") = false := by kernel_rfl
theorem nmr46 : (Try.f46.name == "runtime.NumGoroutine") = false := by kernel_rfl
theorem nmr45 : (Try.f45.name == "runtime.NumGoroutine") = false := by kernel_rfl
theorem nmr32 : (Try.f32.name == "runtime.NumGoroutine") = false := by kernel_rfl
theorem nmr42 : (Try.f42.name == "runtime.NumGoroutine") = false := by kernel_rfl
theorem nmr20 : (Try.f20.name == "runtime.NumGoroutine") = false := by kernel_rfl
theorem nmr22 : (Try.f22.name == "runtime.NumGoroutine") = false := by kernel_rfl
theorem nmr24 : (Try.f24.name == "runtime.NumGoroutine") = false := by kernel_rfl
theorem nmr26 : (Try.f26.name == "runtime.NumGoroutine") = false := by kernel_rfl
theorem nmr28 : (Try.f28.name == "runtime.NumGoroutine") = false := by kernel_rfl
theorem nmr34 : (Try.f34.name == "runtime.NumGoroutine") = false := by kernel_rfl
theorem nmr16 : (Try.f16.name == "runtime.NumGoroutine") = false := by kernel_rfl
theorem nmr17 : (Try.f17.name == "runtime.NumGoroutine") = false := by kernel_rfl
theorem nmr44 : (Try.f44.name == "runtime.NumGoroutine") = false := by kernel_rfl
theorem nmr30 : (Try.f30.name == "runtime.NumGoroutine") = false := by kernel_rfl
theorem nmr18 : (Try.f18.name == "runtime.NumGoroutine") = false := by kernel_rfl
theorem nmr43 : (Try.f43.name == "runtime.NumGoroutine") = false := by kernel_rfl
theorem nmr21 : (Try.f21.name == "runtime.NumGoroutine") = false := by kernel_rfl
theorem nmr23 : (Try.f23.name == "runtime.NumGoroutine") = false := by kernel_rfl
theorem nmr25 : (Try.f25.name == "runtime.NumGoroutine") = false := by kernel_rfl
theorem nmr27 : (Try.f27.name == "runtime.NumGoroutine") = false := by kernel_rfl
theorem nmr29 : (Try.f29.name == "runtime.NumGoroutine") = false := by kernel_rfl
theorem nmr31 : (Try.f31.name == "runtime.NumGoroutine") = false := by kernel_rfl
theorem nmr33 : (Try.f33.name == "runtime.NumGoroutine") = false := by kernel_rfl
theorem nmr5 : (Try.f5.name == "runtime.NumGoroutine") = false := by kernel_rfl
theorem nmr6 : (Try.f6.name == "runtime.NumGoroutine") = false := by kernel_rfl
theorem nmr7 : (Try.f7.name == "runtime.NumGoroutine") = false := by kernel_rfl
theorem nmr8 : (Try.f8.name == "runtime.NumGoroutine") = false := by kernel_rfl
theorem nmr9 : (Try.f9.name == "runtime.NumGoroutine") = false := by kernel_rfl
theorem nmr10 : (Try.f10.name == "runtime.NumGoroutine") = false := by kernel_rfl

noncomputable def gosem_cut_init : Option (Unit) :=
  none

noncomputable def fn_gosem_cut_init : Fun :=
  { f := 2, np := 0, nr := 0,
    ji := { regs := [], vars := [], arrs := [] },
    jo := { regs := [], vars := [], arrs := [] },
    tw := fun x => gosem_cut_init }
noncomputable def cx_gosem_cut_init : Cx := { Γ := types, ow := [], fs := [], N := 1 }
theorem ok_gosem_cut_init : FunOk Try.prog fn_gosem_cut_init :=
  FunOk.intro (C := cx_gosem_cut_init) (p := .nil)
    Try.func2 rfl nmr2 rfl rfl rfl rfl types_ok trivial mx (fun x => by kernel_rfl)

noncomputable def allocate_Signed (n : Int) : Option (Bool) :=
  bif decide ((-1099511627776) ≤ n) then (
   some (decide (n ≤ 1099511627776)))
  else (
   some false)

noncomputable def fn_allocate_Signed : Fun :=
  { f := 35, np := 1, nr := 1,
    ji := { regs := [(0, .one (.data (.int .i64)))], vars := [], arrs := [] },
    jo := { regs := [(0, .one (.data (.bool)))], vars := [], arrs := [] },
    tw := fun x => allocate_Signed x }
noncomputable def cx_allocate_Signed : Cx := { Γ := types, ow := [], fs := [], N := 9 }
theorem ok_allocate_Signed : FunOk Try.prog fn_allocate_Signed :=
  FunOk.intro (C := cx_allocate_Signed) (p := .nil)
    Try.func35 rfl nmr35 rfl rfl rfl rfl types_ok trivial mx (fun x => by kernel_rfl)

noncomputable def slices_IndexFunc_int_int_L0 (s : List Int) (f : Int × Unit → Option Bool) (v : Int) : Option (Int ⊕ (Unit ⊕ Int)) :=
  bif decide (v < (s.length : Int)) then (
   gd (inB v s.length) <|
   (f (s.getD v.toNat 0, ())).bind fun r =>
   bif r then (
    some (.inr (.inr v)))
   else (
    some (.inl (wi64 (v + 1)))))
  else (
   some (.inr (.inl ())))

noncomputable def slices_IndexFunc_int_int (s : List Int) (f : Int × Unit → Option Bool) : Option (Int) :=
  (iter (fun x => slices_IndexFunc_int_int_L0 s f x) 0).bind fun s2 =>
  s2.elim (fun s3 =>
   some (-1))
  (fun s4 =>
   some s4)

noncomputable def fn_slices_IndexFunc_int_int : Fun :=
  { f := 47, np := 2, nr := 1,
    ji := { regs := [(0, .one (.data (.sl (.int .i64)))), (1, .one (.fn [.int .i64] (.bool)))], vars := [], arrs := [] },
    jo := { regs := [(0, .one (.data (.int .i64)))], vars := [], arrs := [] },
    tw := fun x => slices_IndexFunc_int_int x.1 x.2 }
noncomputable def cx_slices_IndexFunc_int_int : Cx := { Γ := types, ow := [], fs := [], N := 19 }
theorem ok_slices_IndexFunc_int_int : FunOk Try.prog fn_slices_IndexFunc_int_int :=
  FunOk.intro (C := cx_slices_IndexFunc_int_int) (p := (.mk [] none .nil (.mk [] none (.mk [] none .nil (.mk [] none (.mk [] (some ({ regs := [(0, .one .keep), (1, .one .keep), (7, .one .keep), (8, .one (.data (.int .i64)))], vars := [], arrs := [] }, [{ e := .x 0, j := { regs := [], vars := [], arrs := [] } }, { e := .r, j := { regs := [(4, .one (.data (.int .i64)))], vars := [], arrs := [] } }])) .nil .nil) .nil)) .nil)))
    Try.func47 rfl nmr47 rfl rfl rfl rfl types_ok trivial mx (fun x => by kernel_rfl)

noncomputable def slices_ContainsFunc_int_int (s : List Int) (f : Int × Unit → Option Bool) : Option (Bool) :=
  (slices_IndexFunc_int_int s f).bind fun r =>
  some (decide (0 ≤ r))

noncomputable def fn_slices_ContainsFunc_int_int : Fun :=
  { f := 36, np := 2, nr := 1,
    ji := { regs := [(0, .one (.data (.sl (.int .i64)))), (1, .one (.fn [.int .i64] (.bool)))], vars := [], arrs := [] },
    jo := { regs := [(0, .one (.data (.bool)))], vars := [], arrs := [] },
    tw := fun x => slices_ContainsFunc_int_int x.1 x.2 }
noncomputable def cx_slices_ContainsFunc_int_int : Cx := { Γ := types, ow := [], fs := [fn_slices_IndexFunc_int_int], N := 9 }
theorem ok_slices_ContainsFunc_int_int : FunOk Try.prog fn_slices_ContainsFunc_int_int :=
  FunOk.intro (C := cx_slices_ContainsFunc_int_int) (p := .nil)
    Try.func36 rfl nmr36 rfl rfl rfl rfl types_ok ⟨ok_slices_IndexFunc_int_int, trivial⟩ mx (fun x => by kernel_rfl)

noncomputable def allocate_Share_1 (w : Int) : Option (Bool) :=
  bif decide (w < 0) then (
   some true)
  else (
   some (decide (1125899906842624 < w)))

noncomputable def fn_allocate_Share_1 : Fun :=
  { f := 37, np := 1, nr := 1,
    ji := { regs := [(0, .one (.data (.int .i64)))], vars := [], arrs := [] },
    jo := { regs := [(0, .one (.data (.bool)))], vars := [], arrs := [] },
    tw := fun x => allocate_Share_1 x }
noncomputable def cx_allocate_Share_1 : Cx := { Γ := types, ow := [], fs := [], N := 9 }
theorem ok_allocate_Share_1 : FunOk Try.prog fn_allocate_Share_1 :=
  FunOk.intro (C := cx_allocate_Share_1) (p := .nil)
    Try.func37 rfl nmr37 rfl rfl rfl rfl types_ok trivial mx (fun x => by kernel_rfl)

noncomputable def allocate_part_L1 (sum : Int) (share2 : Int) (rest2 : Int) : Option ((Int × Int) ⊕ (Int × Int)) :=
  bif decide (sum ≤ rest2) then (
   some (.inl (wi64 (share2 + 1), wi64 (rest2 - sum))))
  else (
   some (.inr (share2, rest2)))

noncomputable def allocate_part_L0 (amount : Int) (weight : Int) (sum : Int) (share : Int) (rest : Int) (bit : Int) : Option ((Int × Int × Int) ⊕ (Int × Int)) :=
  bif decide (0 < bit) then (
   Option.bind (α := Int) (
     bif !decide (bitAnd .i64 amount bit = 0) then (
      some (wi64 ((wi64 (2 * rest)) + weight)))
     else (
      some (wi64 (2 * rest)))) fun s =>
   (iter (fun x => allocate_part_L1 sum x.1 x.2) (wi64 (2 * share), s)).bind fun s2 =>
   some (.inl (s2.1, s2.2, Int.fdiv bit (2 ^ shAmt .i64 1))))
  else (
   some (.inr (share, rest)))

noncomputable def allocate_part (amount : Int) (weight : Int) (sum : Int) : Option (Int × Int) :=
  (iter (fun x2 => allocate_part_L0 amount weight sum x2.1 x2.2.1 x2.2.2) (0, 0, 1099511627776)).bind fun s3 =>
  some (s3.1, s3.2)

noncomputable def fn_allocate_part : Fun :=
  { f := 38, np := 3, nr := 2,
    ji := { regs := [(0, .one (.data (.int .i64))), (1, .one (.data (.int .i64))), (2, .one (.data (.int .i64)))], vars := [], arrs := [] },
    jo := { regs := [(0, .one (.data (.int .i64))), (1, .one (.data (.int .i64)))], vars := [], arrs := [] },
    tw := fun x => allocate_part x.1 x.2.1 x.2.2 }
noncomputable def cx_allocate_part : Cx := { Γ := types, ow := [], fs := [], N := 34 }
theorem ok_allocate_part : FunOk Try.prog fn_allocate_part :=
  FunOk.intro (C := cx_allocate_part) (p := (.mk [] none .nil (.mk [] none (.mk [] none .nil (.mk [] none (.mk [] (some ({ regs := [(0, .one .keep), (1, .one .keep), (2, .one .keep), (6, .one (.data (.int .i64))), (7, .one (.data (.int .i64))), (8, .one (.data (.int .i64)))], vars := [], arrs := [] }, [{ e := .x 0, j := { regs := [(6, .one (.data (.int .i64))), (7, .one (.data (.int .i64)))], vars := [], arrs := [] } }])) (.mk [] none .nil (.mk [] none (.mk [] none (.mk [] none .nil (.mk [] none (.mk [] none .nil (.mk [.join [{ e := .n, j := { regs := [(0, .one .keep), (1, .one .keep), (2, .one .keep), (6, .one .keep), (7, .one (.data (.int .i64))), (8, .one .keep)], vars := [], arrs := [] } }]] none .nil .nil)) (.mk [] none (.mk [] (some ({ regs := [(0, .one .keep), (1, .one .keep), (2, .one .keep), (6, .one (.data (.int .i64))), (7, .one (.data (.int .i64))), (8, .one .keep)], vars := [], arrs := [] }, [{ e := .x 2, j := { regs := [(0, .one .keep), (1, .one .keep), (2, .one .keep), (6, .one (.data (.int .i64))), (7, .one (.data (.int .i64))), (8, .one .keep)], vars := [], arrs := [] } }])) .nil .nil) .nil))) .nil) .nil)) .nil) .nil)) .nil)))
    Try.func38 rfl nmr38 rfl rfl rfl rfl types_ok trivial mx (fun x => by kernel_rfl)

noncomputable def allocate_Share_2 (i : Int) (k : Int) (v : List Int) : Option (Int) :=
  gd (inB k v.length) <|
  gd (inB i v.length) <|
  some (wi64 ((v.getD k.toNat 0) - (v.getD i.toNat 0)))

noncomputable def fn_allocate_Share_2 : Fun :=
  { f := 40, np := 3, nr := 1,
    ji := { regs := [(0, .one (.data (.int .i64))), (1, .one (.data (.int .i64))), (2, .one (.sel (.sl (.int .i64))))], vars := [], arrs := [] },
    jo := { regs := [(0, .one (.data (.int .i64)))], vars := [], arrs := [] },
    tw := fun x => allocate_Share_2 x.1 x.2.1 x.2.2 }
noncomputable def cx_allocate_Share_2 : Cx := { Γ := types, ow := [], fs := [], N := 15 }
theorem ok_allocate_Share_2 : FunOk Try.prog fn_allocate_Share_2 :=
  FunOk.intro (C := cx_allocate_Share_2) (p := .nil)
    Try.func40 rfl nmr40 rfl rfl rfl rfl types_ok trivial mx (fun x => by kernel_rfl)

noncomputable def slices_insertionSortCmpFunc_int_L1 (a : Int) (cmp : Int × Int × Unit → Option Int) (j : Int) (data3 : List Int) : Option ((Int × List Int) ⊕ (List Int)) :=
  Option.bind (α := Bool × List Int) (
    bif decide (a < j) then (
     gd (inB j data3.length) <|
     gd (inB (wi64 (j - 1)) data3.length) <|
     (cmp (data3.getD j.toNat 0, data3.getD ((wi64 (j - 1)).toNat) 0, ())).bind fun r =>
     some (decide (r < 0), data3))
    else (
     some (false, data3))) fun s =>
  bif s.1 then (
   gd (inB (wi64 (j - 1)) s.2.length) <|
   gd (inB j s.2.length) <|
   gd (inB j s.2.length) <|
   gd (inB (wi64 (j - 1)) (s.2.set j.toNat (s.2.getD ((wi64 (j - 1)).toNat) 0)).length) <|
   some (.inl (wi64 (j - 1), (s.2.set j.toNat (s.2.getD ((wi64 (j - 1)).toNat) 0)).set ((wi64 (j - 1)).toNat) (s.2.getD j.toNat 0))))
  else (
   some (.inr s.2))

noncomputable def slices_insertionSortCmpFunc_int_L0 (a : Int) (b : Int) (cmp : Int × Int × Unit → Option Int) (i : Int) (data2 : List Int) : Option ((Int × List Int) ⊕ (List Int)) :=
  bif decide (i < b) then (
   (iter (fun x => slices_insertionSortCmpFunc_int_L1 a cmp x.1 x.2) (i, data2)).bind fun s2 =>
   some (.inl (wi64 (i + 1), s2)))
  else (
   some (.inr data2))

noncomputable def slices_insertionSortCmpFunc_int (a : Int) (b : Int) (cmp : Int × Int × Unit → Option Int) (data : List Int) : Option (List Int) :=
  (iter (fun x2 => slices_insertionSortCmpFunc_int_L0 a b cmp x2.1 x2.2) (wi64 (a + 1), data)).bind fun s3 =>
  some s3

noncomputable def fn_slices_insertionSortCmpFunc_int : Fun :=
  { f := 50, np := 4, nr := 0,
    ji := { regs := [(0, .one (.own 0)), (1, .one (.data (.int .i64))), (2, .one (.data (.int .i64))), (3, .one (.fn [.int .i64, .int .i64] (.int .i64)))], vars := [], arrs := [(0, .arr 3 (.int .i64))] },
    jo := { regs := [], vars := [], arrs := [(0, .arr 3 (.int .i64))] },
    tw := fun x => slices_insertionSortCmpFunc_int x.1 x.2.1 x.2.2.1 x.2.2.2 }
noncomputable def cx_slices_insertionSortCmpFunc_int : Cx := { Γ := types, ow := [], fs := [], N := 53 }
theorem ok_slices_insertionSortCmpFunc_int : FunOk Try.prog fn_slices_insertionSortCmpFunc_int :=
  FunOk.intro (C := cx_slices_insertionSortCmpFunc_int) (p := (.mk [] none .nil (.mk [] none (.mk [] (some ({ regs := [(0, .one (.own 0)), (1, .one .keep), (2, .one .keep), (3, .one .keep), (8, .one (.data (.int .i64)))], vars := [], arrs := [(0, .arr 3 (.int .i64))] }, [{ e := .x 0, j := { regs := [], vars := [], arrs := [(0, .arr 3 (.int .i64))] } }])) (.mk [] none .nil (.mk [] none (.mk [] none (.mk [] none .nil (.mk [] none (.mk [] (some ({ regs := [(0, .one (.own 0)), (1, .one .keep), (2, .one .keep), (3, .one .keep), (8, .one .keep), (9, .one (.data (.int .i64)))], vars := [], arrs := [(0, .arr 3 (.int .i64))] }, [{ e := .x 2, j := { regs := [(0, .one (.own 0)), (1, .one .keep), (2, .one .keep), (3, .one .keep), (8, .one .keep)], vars := [], arrs := [(0, .arr 3 (.int .i64))] } }])) (.mk [] none (.mk [] none (.mk [.join [{ e := .n, j := { regs := [(0, .one (.own 0)), (1, .one .keep), (2, .one .keep), (3, .one .keep), (8, .one .keep), (9, .one .keep), (34, .one (.data (.bool)))], vars := [], arrs := [(0, .arr 3 (.int .i64))] } }]] none .nil .nil) .nil) .nil) .nil) .nil)) .nil) .nil)) .nil) .nil)))
    Try.func50 rfl nmr50 rfl rfl rfl rfl types_ok trivial mx (fun x => by kernel_rfl)

noncomputable def slices_swapRangeCmpFunc_int_L0 (a : Int) (b : Int) (n : Int) (i : Int) (data2 : List Int) : Option ((Int × List Int) ⊕ (List Int)) :=
  bif decide (i < n) then (
   gd (inB (wi64 (b + i)) data2.length) <|
   gd (inB (wi64 (a + i)) data2.length) <|
   gd (inB (wi64 (a + i)) data2.length) <|
   gd (inB (wi64 (b + i)) (data2.set ((wi64 (a + i)).toNat) (data2.getD ((wi64 (b + i)).toNat) 0)).length) <|
   some (.inl (wi64 (i + 1), (data2.set ((wi64 (a + i)).toNat) (data2.getD ((wi64 (b + i)).toNat) 0)).set ((wi64 (b + i)).toNat) (data2.getD ((wi64 (a + i)).toNat) 0))))
  else (
   some (.inr data2))

noncomputable def slices_swapRangeCmpFunc_int (a : Int) (b : Int) (n : Int) (cmp : Int × Int × Unit → Option Int) (data : List Int) : Option (List Int) :=
  (iter (fun x => slices_swapRangeCmpFunc_int_L0 a b n x.1 x.2) (0, data)).bind fun s =>
  some s

noncomputable def fn_slices_swapRangeCmpFunc_int : Fun :=
  { f := 53, np := 5, nr := 0,
    ji := { regs := [(0, .one (.own 0)), (1, .one (.data (.int .i64))), (2, .one (.data (.int .i64))), (3, .one (.data (.int .i64))), (4, .one (.fn [.int .i64, .int .i64] (.int .i64)))], vars := [], arrs := [(0, .arr 3 (.int .i64))] },
    jo := { regs := [], vars := [], arrs := [(0, .arr 3 (.int .i64))] },
    tw := fun x => slices_swapRangeCmpFunc_int x.1 x.2.1 x.2.2.1 x.2.2.2.1 x.2.2.2.2 }
noncomputable def cx_slices_swapRangeCmpFunc_int : Cx := { Γ := types, ow := [], fs := [], N := 38 }
theorem ok_slices_swapRangeCmpFunc_int : FunOk Try.prog fn_slices_swapRangeCmpFunc_int :=
  FunOk.intro (C := cx_slices_swapRangeCmpFunc_int) (p := (.mk [] none .nil (.mk [] none (.mk [] (some ({ regs := [(0, .one (.own 0)), (1, .one .keep), (2, .one .keep), (3, .one .keep), (10, .one (.data (.int .i64)))], vars := [], arrs := [(0, .arr 3 (.int .i64))] }, [{ e := .x 0, j := { regs := [], vars := [], arrs := [(0, .arr 3 (.int .i64))] } }])) .nil .nil) .nil)))
    Try.func53 rfl nmr53 rfl rfl rfl rfl types_ok trivial mx (fun x => by kernel_rfl)

noncomputable def slices_rotateCmpFunc_int_L0 (m : Int) (cmp : Int × Int × Unit → Option Int) (i : Int) (j : Int) (data2 : List Int) : Option ((Int × Int × List Int) ⊕ (Int × List Int)) :=
  bif !decide (i = j) then (
   bif decide (j < i) then (
    (slices_swapRangeCmpFunc_int (wi64 (m - i)) m j cmp data2).bind fun r =>
    some (.inl (wi64 (i - j), j, r)))
   else (
    (slices_swapRangeCmpFunc_int (wi64 (m - i)) (wi64 ((wi64 (m + j)) - i)) i cmp data2).bind fun r2 =>
    some (.inl (i, wi64 (j - i), r2))))
  else (
   some (.inr (i, data2)))

noncomputable def slices_rotateCmpFunc_int (a : Int) (m : Int) (b : Int) (cmp : Int × Int × Unit → Option Int) (data : List Int) : Option (List Int) :=
  (iter (fun x => slices_rotateCmpFunc_int_L0 m cmp x.1 x.2.1 x.2.2) (wi64 (m - a), wi64 (b - m), data)).bind fun s =>
  (slices_swapRangeCmpFunc_int (wi64 (m - s.1)) m s.1 cmp s.2).bind fun r3 =>
  some r3

noncomputable def fn_slices_rotateCmpFunc_int : Fun :=
  { f := 52, np := 5, nr := 0,
    ji := { regs := [(0, .one (.own 0)), (1, .one (.data (.int .i64))), (2, .one (.data (.int .i64))), (3, .one (.data (.int .i64))), (4, .one (.fn [.int .i64, .int .i64] (.int .i64)))], vars := [], arrs := [(0, .arr 3 (.int .i64))] },
    jo := { regs := [], vars := [], arrs := [(0, .arr 3 (.int .i64))] },
    tw := fun x => slices_rotateCmpFunc_int x.1 x.2.1 x.2.2.1 x.2.2.2.1 x.2.2.2.2 }
noncomputable def cx_slices_rotateCmpFunc_int : Cx := { Γ := types, ow := [], fs := [fn_slices_swapRangeCmpFunc_int], N := 58 }
theorem ok_slices_rotateCmpFunc_int : FunOk Try.prog fn_slices_rotateCmpFunc_int :=
  FunOk.intro (C := cx_slices_rotateCmpFunc_int) (p := (.mk [] none .nil (.mk [] none .nil (.mk [] none (.mk [] none (.mk [] (some ({ regs := [(0, .one (.own 0)), (2, .one .keep), (4, .one .keep), (10, .one (.data (.int .i64))), (11, .one (.data (.int .i64)))], vars := [], arrs := [(0, .arr 3 (.int .i64))] }, [{ e := .x 0, j := { regs := [(0, .one (.own 0)), (2, .one .keep), (4, .one .keep), (10, .one (.data (.int .i64)))], vars := [], arrs := [(0, .arr 3 (.int .i64))] } }])) .nil .nil) .nil) .nil))))
    Try.func52 rfl nmr52 rfl rfl rfl rfl types_ok ⟨ok_slices_swapRangeCmpFunc_int, trivial⟩ mx (fun x => by kernel_rfl)

noncomputable def slices_symMergeCmpFunc_int_L0 (a : Int) (cmp : Int × Int × Unit → Option Int) (i : Int) (j : Int) (data2 : List Int) : Option ((Int × Int × List Int) ⊕ (Int × List Int)) :=
  bif decide (i < j) then (
   gd (inB (wi64 (Int.fdiv (wu64 (wi64 (i + j))) (2 ^ shAmt .u64 1))) data2.length) <|
   gd (inB a data2.length) <|
   (cmp (data2.getD ((wi64 (Int.fdiv (wu64 (wi64 (i + j))) (2 ^ shAmt .u64 1))).toNat) 0, data2.getD a.toNat 0, ())).bind fun r =>
   bif decide (r < 0) then (
    some (.inl (wi64 ((wi64 (Int.fdiv (wu64 (wi64 (i + j))) (2 ^ shAmt .u64 1))) + 1), j, data2)))
   else (
    some (.inl (i, wi64 (Int.fdiv (wu64 (wi64 (i + j))) (2 ^ shAmt .u64 1)), data2))))
  else (
   some (.inr (i, data2)))

noncomputable def slices_symMergeCmpFunc_int_L1 (s : Int × List Int) (k : Int) (data3 : List Int) : Option ((Int × List Int) ⊕ (List Int)) :=
  bif decide (k < wi64 (s.1 - 1)) then (
   gd (inB (wi64 (k + 1)) data3.length) <|
   gd (inB k data3.length) <|
   gd (inB k data3.length) <|
   gd (inB (wi64 (k + 1)) (data3.set k.toNat (data3.getD ((wi64 (k + 1)).toNat) 0)).length) <|
   some (.inl (wi64 (k + 1), (data3.set k.toNat (data3.getD ((wi64 (k + 1)).toNat) 0)).set ((wi64 (k + 1)).toNat) (data3.getD k.toNat 0))))
  else (
   some (.inr data3))

noncomputable def slices_symMergeCmpFunc_int_L2 (m : Int) (cmp : Int × Int × Unit → Option Int) (i2 : Int) (j2 : Int) (data4 : List Int) : Option ((Int × Int × List Int) ⊕ (Int × List Int)) :=
  bif decide (i2 < j2) then (
   gd (inB m data4.length) <|
   gd (inB (wi64 (Int.fdiv (wu64 (wi64 (i2 + j2))) (2 ^ shAmt .u64 1))) data4.length) <|
   (cmp (data4.getD m.toNat 0, data4.getD ((wi64 (Int.fdiv (wu64 (wi64 (i2 + j2))) (2 ^ shAmt .u64 1))).toNat) 0, ())).bind fun r2 =>
   bif !(decide (r2 < 0)) then (
    some (.inl (wi64 ((wi64 (Int.fdiv (wu64 (wi64 (i2 + j2))) (2 ^ shAmt .u64 1))) + 1), j2, data4)))
   else (
    some (.inl (i2, wi64 (Int.fdiv (wu64 (wi64 (i2 + j2))) (2 ^ shAmt .u64 1)), data4))))
  else (
   some (.inr (i2, data4)))

noncomputable def slices_symMergeCmpFunc_int_L3 (s3 : Int × List Int) (k2 : Int) (data5 : List Int) : Option ((Int × List Int) ⊕ (List Int)) :=
  bif decide (s3.1 < k2) then (
   gd (inB (wi64 (k2 - 1)) data5.length) <|
   gd (inB k2 data5.length) <|
   gd (inB k2 data5.length) <|
   gd (inB (wi64 (k2 - 1)) (data5.set k2.toNat (data5.getD ((wi64 (k2 - 1)).toNat) 0)).length) <|
   some (.inl (wi64 (k2 - 1), (data5.set k2.toNat (data5.getD ((wi64 (k2 - 1)).toNat) 0)).set ((wi64 (k2 - 1)).toNat) (data5.getD k2.toNat 0))))
  else (
   some (.inr data5))

noncomputable def slices_symMergeCmpFunc_int_L4 (a : Int) (m : Int) (b : Int) (cmp : Int × Int × Unit → Option Int) (start : Int) (r3 : Int) (data6 : List Int) : Option ((Int × Int × List Int) ⊕ (Int × List Int)) :=
  bif decide (start < r3) then (
   gd (inB (wi64 ((wi64 ((wi64 ((wi64 (Int.fdiv (wu64 (wi64 (a + b))) (2 ^ shAmt .u64 1))) + m)) - 1)) - (wi64 (Int.fdiv (wu64 (wi64 (start + r3))) (2 ^ shAmt .u64 1))))) data6.length) <|
   gd (inB (wi64 (Int.fdiv (wu64 (wi64 (start + r3))) (2 ^ shAmt .u64 1))) data6.length) <|
   (cmp (data6.getD ((wi64 ((wi64 ((wi64 ((wi64 (Int.fdiv (wu64 (wi64 (a + b))) (2 ^ shAmt .u64 1))) + m)) - 1)) - (wi64 (Int.fdiv (wu64 (wi64 (start + r3))) (2 ^ shAmt .u64 1))))).toNat) 0, data6.getD ((wi64 (Int.fdiv (wu64 (wi64 (start + r3))) (2 ^ shAmt .u64 1))).toNat) 0, ())).bind fun r4 =>
   bif !(decide (r4 < 0)) then (
    some (.inl (wi64 ((wi64 (Int.fdiv (wu64 (wi64 (start + r3))) (2 ^ shAmt .u64 1))) + 1), r3, data6)))
   else (
    some (.inl (start, wi64 (Int.fdiv (wu64 (wi64 (start + r3))) (2 ^ shAmt .u64 1)), data6))))
  else (
   some (.inr (start, data6)))

noncomputable def slices_symMergeCmpFunc_int_S (rec : Int → Int → Int → (Int × Int × Unit → Option Int) → List Int → Option (List Int)) (a : Int) (m : Int) (b : Int) (cmp : Int × Int × Unit → Option Int) (data : List Int) : Option (List Int) :=
  bif decide (wi64 (m - a) = 1) then (
   (iter (fun x => slices_symMergeCmpFunc_int_L0 a cmp x.1 x.2.1 x.2.2) (m, b, data)).bind fun s =>
   (iter (fun x2 => slices_symMergeCmpFunc_int_L1 s x2.1 x2.2) (a, s.2)).bind fun s2 =>
   some s2)
  else (
   bif decide (wi64 (b - m) = 1) then (
    (iter (fun x3 => slices_symMergeCmpFunc_int_L2 m cmp x3.1 x3.2.1 x3.2.2) (a, m, data)).bind fun s3 =>
    (iter (fun x4 => slices_symMergeCmpFunc_int_L3 s3 x4.1 x4.2) (m, s3.2)).bind fun s4 =>
    some s4)
   else (
    Option.bind (α := Int × Int × List Int) (
      bif decide (wi64 (Int.fdiv (wu64 (wi64 (a + b))) (2 ^ shAmt .u64 1)) < m) then (
       some (wi64 ((wi64 ((wi64 (Int.fdiv (wu64 (wi64 (a + b))) (2 ^ shAmt .u64 1))) + m)) - b), wi64 (Int.fdiv (wu64 (wi64 (a + b))) (2 ^ shAmt .u64 1)), data))
      else (
       some (a, m, data))) fun s5 =>
    (iter (fun x5 => slices_symMergeCmpFunc_int_L4 a m b cmp x5.1 x5.2.1 x5.2.2) (s5.1, s5.2.1, s5.2.2)).bind fun s6 =>
    Option.bind (α := Bool × List Int) (
      bif decide (s6.1 < m) then (
       some (decide (m < wi64 ((wi64 ((wi64 (Int.fdiv (wu64 (wi64 (a + b))) (2 ^ shAmt .u64 1))) + m)) - s6.1)), s6.2))
      else (
       some (false, s6.2))) fun s7 =>
    Option.bind (α := List Int) (
      bif s7.1 then (
       (slices_rotateCmpFunc_int s6.1 m (wi64 ((wi64 ((wi64 (Int.fdiv (wu64 (wi64 (a + b))) (2 ^ shAmt .u64 1))) + m)) - s6.1)) cmp s7.2).bind fun r5 =>
       some r5)
      else (
       some s7.2)) fun s8 =>
    Option.bind (α := Bool × List Int) (
      bif decide (a < s6.1) then (
       some (decide (s6.1 < wi64 (Int.fdiv (wu64 (wi64 (a + b))) (2 ^ shAmt .u64 1))), s8))
      else (
       some (false, s8))) fun s9 =>
    Option.bind (α := List Int) (
      bif s9.1 then (
       (rec a s6.1 (wi64 (Int.fdiv (wu64 (wi64 (a + b))) (2 ^ shAmt .u64 1))) cmp s9.2).bind fun r6 =>
       some r6)
      else (
       some s9.2)) fun s10 =>
    Option.bind (α := Bool × List Int) (
      bif decide (wi64 (Int.fdiv (wu64 (wi64 (a + b))) (2 ^ shAmt .u64 1)) < wi64 ((wi64 ((wi64 (Int.fdiv (wu64 (wi64 (a + b))) (2 ^ shAmt .u64 1))) + m)) - s6.1)) then (
       some (decide (wi64 ((wi64 ((wi64 (Int.fdiv (wu64 (wi64 (a + b))) (2 ^ shAmt .u64 1))) + m)) - s6.1) < b), s10))
      else (
       some (false, s10))) fun s11 =>
    bif s11.1 then (
     (rec (wi64 (Int.fdiv (wu64 (wi64 (a + b))) (2 ^ shAmt .u64 1))) (wi64 ((wi64 ((wi64 (Int.fdiv (wu64 (wi64 (a + b))) (2 ^ shAmt .u64 1))) + m)) - s6.1)) b cmp s11.2).bind fun r7 =>
     some r7)
    else (
     some s11.2)))

noncomputable def slices_symMergeCmpFunc_int_F : Nat → Int → Int → Int → (Int × Int × Unit → Option Int) → List Int → Option (List Int)
  | 0 => fun _ _ _ _ _ => none
  | n + 1 => slices_symMergeCmpFunc_int_S (slices_symMergeCmpFunc_int_F n)

noncomputable def slices_symMergeCmpFunc_int (a : Int) (m : Int) (b : Int) (cmp : Int × Int × Unit → Option Int) (data : List Int) : Option (List Int) := slices_symMergeCmpFunc_int_F 18446744073709551616 a m b cmp data

noncomputable def fn_slices_symMergeCmpFunc_int_F (n : Nat) : Fun :=
  { f := 51, np := 5, nr := 0,
    ji := { regs := [(0, .one (.own 0)), (1, .one (.data (.int .i64))), (2, .one (.data (.int .i64))), (3, .one (.data (.int .i64))), (4, .one (.fn [.int .i64, .int .i64] (.int .i64)))], vars := [], arrs := [(0, .arr 3 (.int .i64))] },
    jo := { regs := [], vars := [], arrs := [(0, .arr 3 (.int .i64))] },
    tw := fun x => slices_symMergeCmpFunc_int_F n x.1 x.2.1 x.2.2.1 x.2.2.2.1 x.2.2.2.2 }
noncomputable def fn_slices_symMergeCmpFunc_int : Fun := fn_slices_symMergeCmpFunc_int_F 18446744073709551616
noncomputable def cx_slices_symMergeCmpFunc_int (n : Nat) : Cx := { Γ := types, ow := [], fs := [fn_slices_rotateCmpFunc_int, fn_slices_symMergeCmpFunc_int_F n], N := 220 }
theorem ok_slices_symMergeCmpFunc_int_F : ∀ n : Nat, FunOk Try.prog (fn_slices_symMergeCmpFunc_int_F n)
  | 0 => FunOk.nothing Try.func51 rfl nmr51 (fun x => rfl)
  | n + 1 => FunOk.intro (C := cx_slices_symMergeCmpFunc_int n) (p := (.mk [] none (.mk [] none .nil (.mk [] none (.mk [] none .nil (.mk [] none .nil (.mk [] none (.mk [] none (.mk [] (some ({ regs := [(0, .one (.own 0)), (1, .one .keep), (4, .one .keep), (10, .one (.data (.int .i64))), (11, .one (.data (.int .i64)))], vars := [], arrs := [(0, .arr 3 (.int .i64))] }, [{ e := .x 0, j := { regs := [(0, .one (.own 0)), (1, .one .keep), (10, .one (.data (.int .i64)))], vars := [], arrs := [(0, .arr 3 (.int .i64))] } }])) .nil .nil) .nil) (.mk [] none (.mk [] none .nil (.mk [] none (.mk [] (some ({ regs := [(0, .one (.own 0)), (10, .one .keep), (13, .one (.data (.int .i64)))], vars := [], arrs := [(0, .arr 3 (.int .i64))] }, [{ e := .x 2, j := { regs := [], vars := [], arrs := [(0, .arr 3 (.int .i64))] } }])) .nil .nil) .nil)) .nil)))) .nil)) (.mk [] none (.mk [] none .nil (.mk [] none (.mk [] none .nil (.mk [] none .nil (.mk [] none (.mk [] none (.mk [] (some ({ regs := [(0, .one (.own 0)), (2, .one .keep), (4, .one .keep), (14, .one (.data (.int .i64))), (15, .one (.data (.int .i64)))], vars := [], arrs := [(0, .arr 3 (.int .i64))] }, [{ e := .x 4, j := { regs := [(0, .one (.own 0)), (2, .one .keep), (14, .one (.data (.int .i64)))], vars := [], arrs := [(0, .arr 3 (.int .i64))] } }])) .nil .nil) .nil) (.mk [] none (.mk [] none .nil (.mk [] none (.mk [] (some ({ regs := [(0, .one (.own 0)), (14, .one .keep), (17, .one (.data (.int .i64)))], vars := [], arrs := [(0, .arr 3 (.int .i64))] }, [{ e := .x 6, j := { regs := [], vars := [], arrs := [(0, .arr 3 (.int .i64))] } }])) .nil .nil) .nil)) .nil)))) .nil)) (.mk [] none .nil (.mk [] none .nil (.mk [] none .nil (.mk [] none (.mk [] none .nil (.mk [.join [{ e := .n, j := { regs := [(0, .one (.own 0)), (1, .one .keep), (2, .one .keep), (3, .one .keep), (4, .one .keep), (18, .one .keep), (19, .one .keep), (20, .one (.data (.int .i64))), (21, .one (.data (.int .i64)))], vars := [], arrs := [(0, .arr 3 (.int .i64))] } }]] none .nil .nil)) (.mk [] none .nil (.mk [] none (.mk [] none (.mk [] (some ({ regs := [(0, .one (.own 0)), (1, .one .keep), (2, .one .keep), (3, .one .keep), (4, .one .keep), (18, .one .keep), (19, .one .keep), (20, .one (.data (.int .i64))), (21, .one (.data (.int .i64))), (22, .one .keep)], vars := [], arrs := [(0, .arr 3 (.int .i64))] }, [{ e := .x 8, j := { regs := [(0, .one (.own 0)), (1, .one .keep), (2, .one .keep), (3, .one .keep), (4, .one .keep), (18, .one .keep), (19, .one .keep), (20, .one (.data (.int .i64)))], vars := [], arrs := [(0, .arr 3 (.int .i64))] } }])) .nil .nil) .nil) (.mk [] none .nil (.mk [] none (.mk [] none (.mk [.join [{ e := .n, j := { regs := [(0, .one (.own 0)), (1, .one .keep), (2, .one .keep), (3, .one .keep), (4, .one .keep), (18, .one .keep), (20, .one .keep), (24, .one .keep), (185, .one (.data (.bool)))], vars := [], arrs := [(0, .arr 3 (.int .i64))] } }]] none .nil .nil) (.mk [.join [{ e := .n, j := { regs := [(0, .one (.own 0)), (1, .one .keep), (3, .one .keep), (4, .one .keep), (18, .one .keep), (20, .one .keep), (24, .one .keep)], vars := [], arrs := [(0, .arr 3 (.int .i64))] } }]] none .nil .nil)) (.mk [] none (.mk [] none (.mk [.join [{ e := .n, j := { regs := [(0, .one (.own 0)), (1, .one .keep), (3, .one .keep), (4, .one .keep), (18, .one .keep), (20, .one .keep), (24, .one .keep), (199, .one (.data (.bool)))], vars := [], arrs := [(0, .arr 3 (.int .i64))] } }]] none .nil .nil) (.mk [.join [{ e := .n, j := { regs := [(0, .one (.own 0)), (3, .one .keep), (4, .one .keep), (18, .one .keep), (24, .one .keep)], vars := [], arrs := [(0, .arr 3 (.int .i64))] } }]] none .nil .nil)) (.mk [] none (.mk [.join [{ e := .n, j := { regs := [(0, .one (.own 0)), (3, .one .keep), (4, .one .keep), (18, .one .keep), (24, .one .keep), (213, .one (.data (.bool)))], vars := [], arrs := [(0, .arr 3 (.int .i64))] } }]] none .nil .nil) .nil)))))))))))))
    Try.func51 rfl nmr51 rfl rfl rfl rfl types_ok ⟨ok_slices_rotateCmpFunc_int, ok_slices_symMergeCmpFunc_int_F n, trivial⟩ mx (fun x => by kernel_rfl)
theorem ok_slices_symMergeCmpFunc_int : FunOk Try.prog fn_slices_symMergeCmpFunc_int := ok_slices_symMergeCmpFunc_int_F 18446744073709551616

noncomputable def slices_stableCmpFunc_int_L0 (n : Int) (cmp : Int × Int × Unit → Option Int) (a : Int) (b : Int) (data2 : List Int) : Option ((Int × Int × List Int) ⊕ (Int × List Int)) :=
  bif decide (b ≤ n) then (
   (slices_insertionSortCmpFunc_int a b cmp data2).bind fun r =>
   some (.inl (b, wi64 (b + 20), r)))
  else (
   some (.inr (a, data2)))

noncomputable def slices_stableCmpFunc_int_L2 (n : Int) (cmp : Int × Int × Unit → Option Int) (blockSize : Int) (a2 : Int) (b2 : Int) (data4 : List Int) : Option ((Int × Int × List Int) ⊕ (Int × List Int)) :=
  bif decide (b2 ≤ n) then (
   (slices_symMergeCmpFunc_int a2 (wi64 (a2 + blockSize)) b2 cmp data4).bind fun r3 =>
   some (.inl (b2, wi64 (b2 + (wi64 (2 * blockSize))), r3)))
  else (
   some (.inr (a2, data4)))

noncomputable def slices_stableCmpFunc_int_L1 (n : Int) (cmp : Int × Int × Unit → Option Int) (blockSize : Int) (data3 : List Int) : Option ((Int × List Int) ⊕ (List Int)) :=
  bif decide (blockSize < n) then (
   (iter (fun x2 => slices_stableCmpFunc_int_L2 n cmp blockSize x2.1 x2.2.1 x2.2.2) (0, wi64 (2 * blockSize), data3)).bind fun s2 =>
   Option.bind (α := List Int) (
     bif decide (wi64 (s2.1 + blockSize) < n) then (
      (slices_symMergeCmpFunc_int s2.1 (wi64 (s2.1 + blockSize)) n cmp s2.2).bind fun r4 =>
      some r4)
     else (
      some s2.2)) fun s3 =>
   some (.inl (wi64 (blockSize * 2), s3)))
  else (
   some (.inr data3))

noncomputable def slices_stableCmpFunc_int (n : Int) (cmp : Int × Int × Unit → Option Int) (data : List Int) : Option (List Int) :=
  (iter (fun x => slices_stableCmpFunc_int_L0 n cmp x.1 x.2.1 x.2.2) (0, 20, data)).bind fun s =>
  (slices_insertionSortCmpFunc_int s.1 n cmp s.2).bind fun r2 =>
  (iter (fun x3 => slices_stableCmpFunc_int_L1 n cmp x3.1 x3.2) (20, r2)).bind fun s4 =>
  some s4

noncomputable def fn_slices_stableCmpFunc_int : Fun :=
  { f := 48, np := 3, nr := 0,
    ji := { regs := [(0, .one (.own 0)), (1, .one (.data (.int .i64))), (2, .one (.fn [.int .i64, .int .i64] (.int .i64)))], vars := [], arrs := [(0, .arr 3 (.int .i64))] },
    jo := { regs := [], vars := [], arrs := [(0, .arr 3 (.int .i64))] },
    tw := fun x => slices_stableCmpFunc_int x.1 x.2.1 x.2.2 }
noncomputable def cx_slices_stableCmpFunc_int : Cx := { Γ := types, ow := [], fs := [fn_slices_insertionSortCmpFunc_int, fn_slices_symMergeCmpFunc_int], N := 63 }
theorem ok_slices_stableCmpFunc_int : FunOk Try.prog fn_slices_stableCmpFunc_int :=
  FunOk.intro (C := cx_slices_stableCmpFunc_int) (p := (.mk [] none .nil (.mk [] none .nil (.mk [] none (.mk [] none (.mk [] (some ({ regs := [(0, .one (.own 0)), (1, .one .keep), (2, .one .keep), (6, .one .keep), (7, .one (.data (.int .i64))), (8, .one (.data (.int .i64)))], vars := [], arrs := [(0, .arr 3 (.int .i64))] }, [{ e := .x 0, j := { regs := [(0, .one (.own 0)), (1, .one .keep), (2, .one .keep), (6, .one .keep), (7, .one (.data (.int .i64)))], vars := [], arrs := [(0, .arr 3 (.int .i64))] } }])) .nil .nil) .nil) (.mk [] none .nil (.mk [] none (.mk [] (some ({ regs := [(0, .one (.own 0)), (1, .one .keep), (2, .one .keep), (6, .one (.data (.int .i64)))], vars := [], arrs := [(0, .arr 3 (.int .i64))] }, [{ e := .x 2, j := { regs := [], vars := [], arrs := [(0, .arr 3 (.int .i64))] } }])) (.mk [] none .nil (.mk [] none (.mk [] none .nil (.mk [] none (.mk [] none (.mk [] (some ({ regs := [(0, .one (.own 0)), (1, .one .keep), (2, .one .keep), (6, .one .keep), (7, .one (.data (.int .i64))), (8, .one (.data (.int .i64)))], vars := [], arrs := [(0, .arr 3 (.int .i64))] }, [{ e := .x 4, j := { regs := [(0, .one (.own 0)), (1, .one .keep), (2, .one .keep), (6, .one .keep), (7, .one (.data (.int .i64)))], vars := [], arrs := [(0, .arr 3 (.int .i64))] } }])) .nil .nil) .nil) (.mk [] none (.mk [] none .nil (.mk [] none .nil (.mk [.join [{ e := .n, j := { regs := [(0, .one (.own 0)), (1, .one .keep), (2, .one .keep), (6, .one .keep)], vars := [], arrs := [(0, .arr 3 (.int .i64))] } }]] none .nil .nil))) .nil))) .nil)) .nil) .nil))))))
    Try.func48 rfl nmr48 rfl rfl rfl rfl types_ok ⟨ok_slices_insertionSortCmpFunc_int, ok_slices_symMergeCmpFunc_int, trivial⟩ mx (fun x => by kernel_rfl)

noncomputable def slices_SortStableFunc_int_int (cmp : Int × Int × Unit → Option Int) (x : List Int) : Option (List Int) :=
  (slices_stableCmpFunc_int (x.length : Int) cmp x).bind fun r =>
  some r

noncomputable def fn_slices_SortStableFunc_int_int : Fun :=
  { f := 39, np := 2, nr := 0,
    ji := { regs := [(0, .one (.own 0)), (1, .one (.fn [.int .i64, .int .i64] (.int .i64)))], vars := [], arrs := [(0, .arr 3 (.int .i64))] },
    jo := { regs := [], vars := [], arrs := [(0, .arr 3 (.int .i64))] },
    tw := fun x => slices_SortStableFunc_int_int x.1 x.2 }
noncomputable def cx_slices_SortStableFunc_int_int : Cx := { Γ := types, ow := [], fs := [fn_slices_stableCmpFunc_int], N := 9 }
theorem ok_slices_SortStableFunc_int_int : FunOk Try.prog fn_slices_SortStableFunc_int_int :=
  FunOk.intro (C := cx_slices_SortStableFunc_int_int) (p := .nil)
    Try.func39 rfl nmr39 rfl rfl rfl rfl types_ok ⟨ok_slices_stableCmpFunc_int, trivial⟩ mx (fun x => by kernel_rfl)

noncomputable def allocate_Share_L0 (weights : List Int) (sum : Int) (v : Int) : Option ((Int × Int) ⊕ Int) :=
  bif decide (v < (weights.length : Int)) then (
   gd (inB v weights.length) <|
   some (.inl (wi64 (sum + (weights.getD v.toNat 0)), wi64 (v + 1))))
  else (
   some (.inr sum))

noncomputable def allocate_Share_L1 (total : Int) (weights : List Int) (s2 : Int) (left : Int) (v2 : Int) (out : List Int) (order : List Int) (rests : List Int) : Option ((Int × Int × List Int × List Int × List Int) ⊕ (Int × List Int × List Int × List Int)) :=
  bif decide (v2 < (weights.length : Int)) then (
   gd (inB v2 weights.length) <|
   gd (inB v2 order.length) <|
   (allocate_part (max total (wi64 (0 - total))) (weights.getD v2.toNat 0) s2).bind fun r3 =>
   gd (inB v2 out.length) <|
   gd (inB v2 rests.length) <|
   gd (inB v2 (out.set v2.toNat r3.1).length) <|
   some (.inl (wi64 (left - ((out.set v2.toNat r3.1).getD v2.toNat 0)), wi64 (v2 + 1), out.set v2.toNat r3.1, order.set v2.toNat v2, rests.set v2.toNat r3.2)))
  else (
   some (.inr (left, out, order, rests)))

noncomputable def allocate_Share_L2 (s4 : Int × List Int × List Int × List Int) (r4 : List Int) (v3 : Int) (out2 : List Int) (v4 : List Int) : Option ((Int × List Int × List Int) ⊕ (List Int)) :=
  bif decide (v3 < ((r4.take s4.1.toNat).length : Int)) then (
   gd (inB v3 v4.length) <|
   gd (inB (v4.getD v3.toNat 0) out2.length) <|
   gd (inB (v4.getD v3.toNat 0) out2.length) <|
   some (.inl (wi64 (v3 + 1), out2.set ((v4.getD v3.toNat 0).toNat) (wi64 ((out2.getD ((v4.getD v3.toNat 0).toNat) 0) + 1)), v4)))
  else (
   some (.inr out2))

noncomputable def allocate_Share_L3 (s3 : Int × List Int) (s5 : List Int) (v5 : Int) (out3 : List Int) : Option ((Int × List Int) ⊕ (List Int)) :=
  bif decide (v5 < (s5.length : Int)) then (
   gd (inB v5 out3.length) <|
   gd (inB v5 out3.length) <|
   some (.inl (wi64 (v5 + 1), out3.set v5.toNat (wi64 ((out3.getD v5.toNat 0) * s3.1)))))
  else (
   some (.inr out3))

noncomputable def allocate_Share (total : Int) (weights : List Int) : Option (List Int × Int) :=
  bif decide (64 < (weights.length : Int)) then (
   some ([], 4))
  else (
   Option.bind (α := Bool) (
     (allocate_Signed total).bind fun r =>
     bif !r then (
      some true)
     else (
      (slices_ContainsFunc_int_int weights (fun h => (allocate_Share_1 h.1).bind fun y => some y)).bind fun r2 =>
      some r2)) fun s =>
   bif s then (
    some ([], 1))
   else (
    (iter (fun x => allocate_Share_L0 weights x.1 x.2) (0, 0)).bind fun s2 =>
    gd (makeG 8 (weights.length : Int)) <|
    bif decide (total = 0) then (
     some (List.replicate (weights.length : Int).toNat 0, 0))
    else (
     bif decide (s2 = 0) then (
      some ([], 9))
     else (
      Option.bind (α := Int × List Int) (
        bif decide (total < 0) then (
         some ((-1), List.replicate (weights.length : Int).toNat 0))
        else (
         some (1, List.replicate (weights.length : Int).toNat 0))) fun s3 =>
      gd (makeG 8 (weights.length : Int)) <|
      gd (makeG 8 (weights.length : Int)) <|
      (iter (fun x2 => allocate_Share_L1 total weights s2 x2.1 x2.2.1 x2.2.2.1 x2.2.2.2.1 x2.2.2.2.2) (max total (wi64 (0 - total)), 0, s3.2, List.replicate (weights.length : Int).toNat 0, List.replicate (weights.length : Int).toNat 0)).bind fun s4 =>
      (slices_SortStableFunc_int_int (fun h2 => (allocate_Share_2 h2.1 h2.2.1 s4.2.2.2).bind fun y => some y) s4.2.2.1).bind fun r4 =>
      gd (inR 0 s4.1 r4.length) <|
      (iter (fun x3 => allocate_Share_L2 s4 r4 x3.1 x3.2.1 x3.2.2) (0, s4.2.1, r4.take s4.1.toNat)).bind fun s5 =>
      (iter (fun x4 => allocate_Share_L3 s3 s5 x4.1 x4.2) (0, s5)).bind fun s6 =>
      some (s6, 0)))))

noncomputable def fn_allocate_Share : Fun :=
  { f := 13, np := 2, nr := 2,
    ji := { regs := [(0, .one (.data (.int .i64))), (1, .one (.data (.sl (.int .i64))))], vars := [], arrs := [] },
    jo := { regs := [(0, .one (.data (.sl (.int .i64)))), (1, .one (.data (.int .i64)))], vars := [], arrs := [] },
    tw := fun x => allocate_Share x.1 x.2 }
noncomputable def cx_allocate_Share : Cx := { Γ := types, ow := [], fs := [fn_allocate_Signed, fn_slices_ContainsFunc_int_int, fn_allocate_Share_1, fn_allocate_part, fn_slices_SortStableFunc_int_int, fn_allocate_Share_2], N := 128 }
theorem ok_allocate_Share : FunOk Try.prog fn_allocate_Share :=
  FunOk.intro (C := cx_allocate_Share) (p := (.mk [] none .nil (.mk [] none (.mk [] none (.mk [] none .nil (.mk [] none .nil (.mk [] none (.mk [.join [{ e := .n, j := { regs := [(0, .one .keep), (1, .one .keep), (24, .one (.data (.bool)))], vars := [], arrs := [] } }]] none .nil .nil) .nil))) .nil) (.mk [] none .nil (.mk [] none (.mk [] none .nil (.mk [] none (.mk [] (some ({ regs := [(0, .one .keep), (1, .one .keep), (6, .one (.data (.int .i64))), (32, .one .keep), (33, .one .keep), (34, .one (.data (.int .i64)))], vars := [], arrs := [] }, [{ e := .x 1, j := { regs := [(0, .one .keep), (1, .one .keep), (6, .one (.data (.int .i64)))], vars := [], arrs := [] } }])) .nil .nil) .nil)) (.mk [] none .nil (.mk [] none .nil (.mk [] none .nil (.mk [] none (.mk [] none .nil (.mk [.join [{ e := .n, j := { regs := [(1, .one .keep), (6, .one .keep), (9, .one (.own 720)), (10, .one .keep), (11, .one (.data (.int .i64)))], vars := [], arrs := [(720, .arr 3 (.int .i64))] } }]] none .nil .nil)) (.mk [] none .nil (.mk [] none .nil (.mk [] none (.mk [] none .nil (.mk [] none (.mk [] (some ({ regs := [(6, .one .keep), (9, .one (.own 720)), (10, .one .keep), (11, .one .keep), (12, .one (.own 976)), (13, .one (.ptr 224 0)), (14, .one (.data (.int .i64))), (65, .one .keep), (66, .one .keep), (67, .one (.data (.int .i64)))], vars := [(224, 22, [.own 1024])], arrs := [(720, .arr 3 (.int .i64)), (976, .arr 3 (.int .i64)), (1024, .arr 3 (.int .i64))] }, [{ e := .x 4, j := { regs := [(9, .one (.own 720)), (11, .one .keep), (12, .one (.own 976)), (13, .one (.ptr 224 0)), (14, .one (.data (.int .i64)))], vars := [(224, 22, [.own 1024])], arrs := [(720, .arr 3 (.int .i64)), (976, .arr 3 (.int .i64)), (1024, .arr 3 (.int .i64))] } }])) .nil .nil) .nil)) (.mk [] none (.mk [.fv [(13, .sl (.int .i64))]] none .nil .nil) (.mk [] none (.mk [] none .nil (.mk [] none (.mk [] (some ({ regs := [(9, .one (.own 720)), (11, .one .keep), (101, .one (.own 1632)), (102, .one .keep), (103, .one (.data (.int .i64)))], vars := [], arrs := [(720, .arr 3 (.int .i64)), (1632, .arr 3 (.int .i64))] }, [{ e := .x 6, j := { regs := [(9, .one (.own 720)), (11, .one .keep)], vars := [], arrs := [(720, .arr 3 (.int .i64))] } }])) .nil .nil) .nil)) (.mk [] none (.mk [] none .nil (.mk [] none (.mk [] (some ({ regs := [(9, .one (.own 720)), (11, .one .keep), (115, .one .keep), (116, .one (.data (.int .i64)))], vars := [], arrs := [(720, .arr 3 (.int .i64))] }, [{ e := .x 8, j := { regs := [(9, .one (.own 720))], vars := [], arrs := [(720, .arr 3 (.int .i64))] } }])) .nil .nil) .nil)) .nil)))))))))))))))
    Try.func13 rfl nmr13 rfl rfl rfl rfl types_ok ⟨ok_allocate_Signed, ok_slices_ContainsFunc_int_int, ok_allocate_Share_1, ok_allocate_part, ok_slices_SortStableFunc_int_int, ok_allocate_Share_2, trivial⟩ mx (fun x => by kernel_rfl)

noncomputable def ref23_SameInts_L0 (a : List Int) (b : List Int) (i : Int) : Option (Int ⊕ (Unit ⊕ Bool)) :=
  bif decide (i < (a.length : Int)) then (
   gd (inB i a.length) <|
   gd (inB i b.length) <|
   bif !decide (a.getD i.toNat 0 = b.getD i.toNat 0) then (
    some (.inr (.inr false)))
   else (
    some (.inl (wi64 (i + 1)))))
  else (
   some (.inr (.inl ())))

noncomputable def ref23_SameInts (a : List Int) (b : List Int) : Option (Bool) :=
  bif !decide ((a.length : Int) = (b.length : Int)) then (
   some false)
  else (
   (iter (fun x => ref23_SameInts_L0 a b x) 0).bind fun s =>
   s.elim (fun s2 =>
    some true)
   (fun s3 =>
    some s3))

noncomputable def fn_ref23_SameInts : Fun :=
  { f := 15, np := 2, nr := 1,
    ji := { regs := [(0, .one (.data (.sl (.int .i64)))), (1, .one (.data (.sl (.int .i64))))], vars := [], arrs := [] },
    jo := { regs := [(0, .one (.data (.bool)))], vars := [], arrs := [] },
    tw := fun x => ref23_SameInts x.1 x.2 }
noncomputable def cx_ref23_SameInts : Cx := { Γ := types, ow := [], fs := [], N := 26 }
theorem ok_ref23_SameInts : FunOk Try.prog fn_ref23_SameInts :=
  FunOk.intro (C := cx_ref23_SameInts) (p := (.mk [] none .nil (.mk [] none .nil (.mk [] none (.mk [] none .nil (.mk [] none (.mk [] (some ({ regs := [(0, .one .keep), (1, .one .keep), (5, .one (.data (.int .i64)))], vars := [], arrs := [] }, [{ e := .x 0, j := { regs := [], vars := [], arrs := [] } }, { e := .r, j := { regs := [(4, .one (.data (.bool)))], vars := [], arrs := [] } }])) .nil .nil) .nil)) .nil))))
    Try.func15 rfl nmr15 rfl rfl rfl rfl types_ok trivial mx (fun x => by kernel_rfl)

noncomputable def law38_awake : Option (Bool) :=
  (allocate_Share (-10) [50, 30, 20]).bind fun r =>
  bif decide (r.2 = 0) then (
   (ref23_SameInts r.1 [(-5), (-3), (-2)]).bind fun r2 =>
   some r2)
  else (
   some false)

noncomputable def fn_law38_awake : Fun :=
  { f := 11, np := 0, nr := 1,
    ji := { regs := [], vars := [], arrs := [] },
    jo := { regs := [(0, .one (.data (.bool)))], vars := [], arrs := [] },
    tw := fun x => law38_awake }
noncomputable def cx_law38_awake : Cx := { Γ := types, ow := [], fs := [fn_allocate_Share, fn_ref23_SameInts], N := 15 }
theorem ok_law38_awake : FunOk Try.prog fn_law38_awake :=
  FunOk.intro (C := cx_law38_awake) (p := .nil)
    Try.func11 rfl nmr11 rfl rfl rfl rfl types_ok ⟨ok_allocate_Share, ok_ref23_SameInts, trivial⟩ mx (fun x => by kernel_rfl)

noncomputable def keep_Mod (x : Int) (n : Int) : Option (Int) :=
  bif decide (n < 1) then (
   some 0)
  else (
   gd (!decide (n = 0)) <|
   bif decide (Int.tmod x n < 0) then (
    some (wi64 ((Int.tmod x n) + n)))
   else (
    some (Int.tmod x n)))

noncomputable def fn_keep_Mod : Fun :=
  { f := 19, np := 2, nr := 1,
    ji := { regs := [(0, .one (.data (.int .i64))), (1, .one (.data (.int .i64)))], vars := [], arrs := [] },
    jo := { regs := [(0, .one (.data (.int .i64)))], vars := [], arrs := [] },
    tw := fun x => keep_Mod x.1 x.2 }
noncomputable def cx_keep_Mod : Cx := { Γ := types, ow := [], fs := [], N := 16 }
theorem ok_keep_Mod : FunOk Try.prog fn_keep_Mod :=
  FunOk.intro (C := cx_keep_Mod) (p := .nil)
    Try.func19 rfl nmr19 rfl rfl rfl rfl types_ok trivial mx (fun x => by kernel_rfl)

noncomputable def second_Mod (n : Int) (k : Int) : Option (Int) :=
  (keep_Mod n k).bind fun r =>
  some r

noncomputable def fn_second_Mod : Fun :=
  { f := 12, np := 2, nr := 1,
    ji := { regs := [(0, .one (.data (.int .i64))), (1, .one (.data (.int .i64)))], vars := [], arrs := [] },
    jo := { regs := [(0, .one (.data (.int .i64)))], vars := [], arrs := [] },
    tw := fun x => second_Mod x.1 x.2 }
noncomputable def cx_second_Mod : Cx := { Γ := types, ow := [], fs := [fn_keep_Mod], N := 8 }
theorem ok_second_Mod : FunOk Try.prog fn_second_Mod :=
  FunOk.intro (C := cx_second_Mod) (p := .nil)
    Try.func12 rfl nmr12 rfl rfl rfl rfl types_ok ⟨ok_keep_Mod, trivial⟩ mx (fun x => by kernel_rfl)

noncomputable def ref38_part_L0 (total : Int) (weight : Int) (sum : Int) (q : Int) (r : Int) (i : Int) : Option ((Int × Int × Int) ⊕ (Int × Int)) :=
  bif decide (0 ≤ i) then (
   gd (!decide (wu64 i < 0)) <|
   Option.bind (α := Int) (
     bif decide (bitAnd .i64 (Int.fdiv total (2 ^ shAmt .i64 (wu64 i))) 1 = 1) then (
      some (wi64 ((wi64 (2 * r)) + weight)))
     else (
      some (wi64 (2 * r)))) fun s =>
   gd (!decide (sum = 0)) <|
   gd (!decide (sum = 0)) <|
   some (.inl (wi64 ((wi64 (2 * q)) + (wi64 (Int.tdiv s sum))), Int.tmod s sum, wi64 (i - 1))))
  else (
   some (.inr (q, r)))

noncomputable def ref38_part (total : Int) (weight : Int) (sum : Int) : Option (Int × Int) :=
  (iter (fun x => ref38_part_L0 total weight sum x.1 x.2.1 x.2.2) (0, 0, 40)).bind fun s2 =>
  some (s2.1, s2.2)

noncomputable def fn_ref38_part : Fun :=
  { f := 41, np := 3, nr := 2,
    ji := { regs := [(0, .one (.data (.int .i64))), (1, .one (.data (.int .i64))), (2, .one (.data (.int .i64)))], vars := [], arrs := [] },
    jo := { regs := [(0, .one (.data (.int .i64))), (1, .one (.data (.int .i64)))], vars := [], arrs := [] },
    tw := fun x => ref38_part x.1 x.2.1 x.2.2 }
noncomputable def cx_ref38_part : Cx := { Γ := types, ow := [], fs := [], N := 38 }
theorem ok_ref38_part : FunOk Try.prog fn_ref38_part :=
  FunOk.intro (C := cx_ref38_part) (p := (.mk [] none .nil (.mk [] none .nil (.mk [] none (.mk [] none .nil (.mk [] none (.mk [] (some ({ regs := [(0, .one .keep), (1, .one .keep), (2, .one .keep), (8, .one (.data (.int .i64))), (9, .one (.data (.int .i64))), (10, .one (.data (.int .i64)))], vars := [], arrs := [] }, [{ e := .x 0, j := { regs := [(8, .one (.data (.int .i64))), (9, .one (.data (.int .i64)))], vars := [], arrs := [] } }])) (.mk [] none .nil (.mk [] none (.mk [] none (.mk [] none .nil (.mk [] none (.mk [] none .nil (.mk [.join [{ e := .n, j := { regs := [(0, .one .keep), (1, .one .keep), (2, .one .keep), (8, .one .keep), (9, .one (.data (.int .i64))), (10, .one .keep)], vars := [], arrs := [] } }]] none .nil .nil)) .nil)) .nil) .nil)) .nil) .nil)) .nil))))
    Try.func41 rfl nmr41 rfl rfl rfl rfl types_ok trivial mx (fun x => by kernel_rfl)

noncomputable def ref38_Share_L0 (weights : List Int) (sum : Int) (i : Int) : Option ((Int × Int) ⊕ (Int ⊕ (List Int × Int))) :=
  bif decide (i < (weights.length : Int)) then (
   Option.bind (α := Bool) (
     gd (inB i weights.length) <|
     bif decide (weights.getD i.toNat 0 < 0) then (
      some true)
     else (
      gd (inB i weights.length) <|
      some (decide (1125899906842624 < weights.getD i.toNat 0)))) fun s2 =>
   bif s2 then (
    some (.inr (.inr ([], 1))))
   else (
    gd (inB i weights.length) <|
    some (.inl (wi64 (sum + (weights.getD i.toNat 0)), wi64 (i + 1)))))
  else (
   some (.inr (.inl sum)))

noncomputable def ref38_Share_L1 (total : Int) (weights : List Int) (s4 : Int) (left : Int) (i2 : Int) (out : List Int) (rest : List Int) : Option ((Int × Int × List Int × List Int) ⊕ (Int × List Int × List Int)) :=
  bif decide (i2 < (weights.length : Int)) then (
   gd (inB i2 weights.length) <|
   (ref38_part (max total (wi64 (0 - total))) (weights.getD i2.toNat 0) s4).bind fun r =>
   gd (inB i2 out.length) <|
   gd (inB i2 rest.length) <|
   gd (inB i2 (out.set i2.toNat r.1).length) <|
   some (.inl (wi64 (left - ((out.set i2.toNat r.1).getD i2.toNat 0)), wi64 (i2 + 1), out.set i2.toNat r.1, rest.set i2.toNat r.2)))
  else (
   some (.inr (left, out, rest)))

noncomputable def ref38_Share_L3 (k : Int) (i3 : Int) (out3 : List Int) (rest3 : List Int) : Option ((Int × Int × List Int × List Int) ⊕ (Int × List Int × List Int)) :=
  bif decide (i3 < (rest3.length : Int)) then (
   gd (inB i3 rest3.length) <|
   gd (inB k rest3.length) <|
   Option.bind (α := Int × List Int × List Int) (
     bif decide (rest3.getD k.toNat 0 < rest3.getD i3.toNat 0) then (
      some (i3, out3, rest3))
     else (
      some (k, out3, rest3))) fun s7 =>
   some (.inl (s7.1, wi64 (i3 + 1), s7.2.1, s7.2.2)))
  else (
   some (.inr (k, out3, rest3)))

noncomputable def ref38_Share_L2 (left2 : Int) (out2 : List Int) (rest2 : List Int) : Option ((Int × List Int × List Int) ⊕ (List Int)) :=
  bif decide (0 < left2) then (
   (iter (fun x3 => ref38_Share_L3 x3.1 x3.2.1 x3.2.2.1 x3.2.2.2) (0, 1, out2, rest2)).bind fun s8 =>
   gd (inB s8.1 s8.2.1.length) <|
   gd (inB s8.1 s8.2.1.length) <|
   gd (inB s8.1 s8.2.2.length) <|
   some (.inl (wi64 (left2 - 1), s8.2.1.set s8.1.toNat (wi64 ((s8.2.1.getD s8.1.toNat 0) + 1)), s8.2.2.set s8.1.toNat (-1))))
  else (
   some (.inr out2))

noncomputable def ref38_Share_L4 (total : Int) (i4 : Int) (out4 : List Int) : Option ((Int × List Int) ⊕ (List Int)) :=
  Option.bind (α := Bool × List Int) (
    bif decide (i4 < (out4.length : Int)) then (
     some (decide (total < 0), out4))
    else (
     some (false, out4))) fun s10 =>
  bif s10.1 then (
   gd (inB i4 s10.2.length) <|
   gd (inB i4 s10.2.length) <|
   some (.inl (wi64 (i4 + 1), s10.2.set i4.toNat (wi64 (0 - (s10.2.getD i4.toNat 0))))))
  else (
   some (.inr s10.2))

noncomputable def ref38_Share (total : Int) (weights : List Int) : Option (List Int × Int) :=
  bif decide (64 < (weights.length : Int)) then (
   some ([], 4))
  else (
   Option.bind (α := Bool) (
     bif decide (total < (-1099511627776)) then (
      some true)
     else (
      some (decide (1099511627776 < total)))) fun s =>
   bif s then (
    some ([], 1))
   else (
    (iter (fun x => ref38_Share_L0 weights x.1 x.2) (0, 0)).bind fun s3 =>
    s3.elim (fun s4 =>
     bif decide (total = 0) then (
      gd (makeG 8 (weights.length : Int)) <|
      some (List.replicate (weights.length : Int).toNat 0, 0))
     else (
      bif decide (s4 = 0) then (
       some ([], 9))
      else (
       gd (makeG 8 (weights.length : Int)) <|
       gd (makeG 8 (weights.length : Int)) <|
       (iter (fun x2 => ref38_Share_L1 total weights s4 x2.1 x2.2.1 x2.2.2.1 x2.2.2.2) (max total (wi64 (0 - total)), 0, List.replicate (weights.length : Int).toNat 0, List.replicate (weights.length : Int).toNat 0)).bind fun s6 =>
       (iter (fun x4 => ref38_Share_L2 x4.1 x4.2.1 x4.2.2) (s6.1, s6.2.1, s6.2.2)).bind fun s9 =>
       (iter (fun x5 => ref38_Share_L4 total x5.1 x5.2) (0, s9)).bind fun s11 =>
       some (s11, 0))))
    (fun s5 =>
     some (s5.1, s5.2))))

noncomputable def fn_ref38_Share : Fun :=
  { f := 14, np := 2, nr := 2,
    ji := { regs := [(0, .one (.data (.int .i64))), (1, .one (.data (.sl (.int .i64))))], vars := [], arrs := [] },
    jo := { regs := [(0, .one (.data (.sl (.int .i64)))), (1, .one (.data (.int .i64)))], vars := [], arrs := [] },
    tw := fun x => ref38_Share x.1 x.2 }
noncomputable def cx_ref38_Share : Cx := { Γ := types, ow := [], fs := [fn_ref38_part], N := 144 }
theorem ok_ref38_Share : FunOk Try.prog fn_ref38_Share :=
  FunOk.intro (C := cx_ref38_Share) (p := (.mk [] none .nil (.mk [] none .nil (.mk [] none (.mk [] none (.mk [.join [{ e := .n, j := { regs := [(0, .one .keep), (1, .one .keep), (23, .one (.data (.bool)))], vars := [], arrs := [] } }]] none .nil .nil) .nil) (.mk [] none .nil (.mk [] none (.mk [] none .nil (.mk [] none (.mk [] (some ({ regs := [(0, .one .keep), (1, .one .keep), (6, .one (.data (.int .i64))), (7, .one (.data (.int .i64)))], vars := [], arrs := [] }, [{ e := .x 0, j := { regs := [(0, .one .keep), (1, .one .keep), (6, .one (.data (.int .i64)))], vars := [], arrs := [] } }, { e := .r, j := { regs := [(4, .one (.data (.sl (.int .i64)))), (5, .one (.data (.int .i64)))], vars := [], arrs := [] } }])) (.mk [] none .nil (.mk [] none (.mk [] none (.mk [] none (.mk [] none (.mk [.join [{ e := .n, j := { regs := [(0, .one .keep), (1, .one .keep), (6, .one .keep), (7, .one .keep), (41, .one (.data (.bool)))], vars := [], arrs := [] } }]] none .nil .nil) .nil) .nil) .nil) .nil)) .nil) .nil)) (.mk [] none .nil (.mk [] none .nil (.mk [] none .nil (.mk [] none .nil (.mk [] none .nil (.mk [] none (.mk [] none .nil (.mk [] none (.mk [] (some ({ regs := [(0, .one .keep), (1, .one .keep), (6, .one .keep), (8, .one (.own 928)), (9, .one (.own 976)), (10, .one (.data (.int .i64))), (11, .one (.data (.int .i64)))], vars := [], arrs := [(928, .arr 3 (.int .i64)), (976, .arr 3 (.int .i64))] }, [{ e := .x 2, j := { regs := [(0, .one .keep), (8, .one (.own 928)), (9, .one (.own 976)), (10, .one (.data (.int .i64)))], vars := [], arrs := [(928, .arr 3 (.int .i64)), (976, .arr 3 (.int .i64))] } }])) .nil .nil) .nil)) (.mk [] none (.mk [] none (.mk [] (some ({ regs := [(0, .one .keep), (8, .one (.own 928)), (9, .one (.own 976)), (10, .one (.data (.int .i64)))], vars := [], arrs := [(928, .arr 3 (.int .i64)), (976, .arr 3 (.int .i64))] }, [{ e := .x 4, j := { regs := [(0, .one .keep), (8, .one (.own 928))], vars := [], arrs := [(928, .arr 3 (.int .i64))] } }])) (.mk [] none .nil (.mk [] none (.mk [] none (.mk [] none .nil (.mk [] none (.mk [] none .nil (.mk [] none (.mk [] (some ({ regs := [(0, .one .keep), (8, .one (.own 928)), (9, .one (.own 976)), (10, .one .keep), (12, .one (.data (.int .i64))), (13, .one (.data (.int .i64)))], vars := [], arrs := [(928, .arr 3 (.int .i64)), (976, .arr 3 (.int .i64))] }, [{ e := .x 6, j := { regs := [(0, .one .keep), (8, .one (.own 928)), (9, .one (.own 976)), (10, .one .keep), (12, .one (.data (.int .i64)))], vars := [], arrs := [(928, .arr 3 (.int .i64)), (976, .arr 3 (.int .i64))] } }])) (.mk [] none .nil (.mk [] none (.mk [] none (.mk [] none .nil (.mk [.join [{ e := .n, j := { regs := [(0, .one .keep), (8, .one (.own 928)), (9, .one (.own 976)), (10, .one .keep), (12, .one (.data (.int .i64))), (13, .one .keep)], vars := [], arrs := [(928, .arr 3 (.int .i64)), (976, .arr 3 (.int .i64))] } }]] none .nil .nil)) .nil) .nil)) .nil) .nil)) .nil)) .nil) .nil)) .nil) .nil) (.mk [] none (.mk [] none .nil (.mk [] none (.mk [] (some ({ regs := [(0, .one .keep), (8, .one (.own 928)), (14, .one (.data (.int .i64)))], vars := [], arrs := [(928, .arr 3 (.int .i64))] }, [{ e := .x 8, j := { regs := [(8, .one (.own 928))], vars := [], arrs := [(928, .arr 3 (.int .i64))] } }])) (.mk [] none (.mk [] none (.mk [.join [{ e := .n, j := { regs := [(0, .one .keep), (8, .one (.own 928)), (14, .one .keep), (132, .one (.data (.bool)))], vars := [], arrs := [(928, .arr 3 (.int .i64))] } }]] none .nil .nil) .nil) .nil) .nil) .nil)) .nil))))))))))))))
    Try.func14 rfl nmr14 rfl rfl rfl rfl types_ok ⟨ok_ref38_part, trivial⟩ mx (fun x => by kernel_rfl)

noncomputable def law38_AllocateShares_L0 (weights : List Int) (how : Int) (i : Int) (w : List Int) : Option ((Int × List Int) ⊕ (List Int)) :=
  bif decide (i < (weights.length : Int)) then (
   gd (inB i weights.length) <|
   Option.bind (α := Int × List Int) (
     bif decide (Int.tmod how 4 = 0) then (
      (second_Mod (weights.getD i.toNat 0) 1125899906842625).bind fun r2 =>
      some (r2, w))
     else (
      Option.bind (α := Int × List Int) (
        bif decide (Int.tmod how 4 = 1) then (
         (second_Mod (weights.getD i.toNat 0) 9).bind fun r3 =>
         some (r3, w))
        else (
         Option.bind (α := Int × List Int) (
           bif decide (Int.tmod how 4 = 2) then (
            (second_Mod (weights.getD i.toNat 0) 100000).bind fun r4 =>
            some (r4, w))
           else (
            some (weights.getD i.toNat 0, w))) fun s =>
         some (s.1, s.2))) fun s2 =>
      some (s2.1, s2.2))) fun s3 =>
   gd (fits (s3.2.length + 1) 8) <|
   some (.inl (wi64 (i + 1), s3.2 ++ [s3.1])))
  else (
   some (.inr w))

noncomputable def law38_AllocateShares (total : Int) (weights : List Int) (how : Int) : Option (Bool) :=
  bif decide (100 < (weights.length : Int)) then (
   (law38_awake).bind fun r =>
   some r)
  else (
   (iter (fun x => law38_AllocateShares_L0 weights how x.1 x.2) (0, [])).bind fun s4 =>
   Option.bind (α := Int × List Int) (
     bif decide (2 < Int.tmod how 8) then (
      (second_Mod total 4001).bind fun r5 =>
      some (wi64 (r5 - 2000), s4))
     else (
      Option.bind (α := Int × List Int) (
        bif decide (0 < Int.tmod how 8) then (
         (second_Mod total 2199023255555).bind fun r6 =>
         some (wi64 ((wi64 (r6 - 1099511627776)) - 1), s4))
        else (
         some (total, s4))) fun s5 =>
      some (s5.1, s5.2))) fun s6 =>
   (allocate_Share s6.1 s6.2).bind fun r7 =>
   (ref38_Share s6.1 s6.2).bind fun r8 =>
   bif decide (r7.2 = r8.2) then (
    (ref23_SameInts r7.1 r8.1).bind fun r9 =>
    bif r9 then (
     (law38_awake).bind fun r10 =>
     some r10)
    else (
     some false))
   else (
    some false))

noncomputable def fn_law38_AllocateShares : Fun :=
  { f := 3, np := 3, nr := 1,
    ji := { regs := [(0, .one (.data (.int .i64))), (1, .one (.data (.sl (.int .i64)))), (2, .one (.data (.int .u8)))], vars := [], arrs := [] },
    jo := { regs := [(0, .one (.data (.bool)))], vars := [], arrs := [] },
    tw := fun x => law38_AllocateShares x.1 x.2.1 x.2.2 }
noncomputable def cx_law38_AllocateShares : Cx := { Γ := types, ow := [], fs := [fn_law38_awake, fn_second_Mod, fn_allocate_Share, fn_ref38_Share, fn_ref23_SameInts], N := 82 }
theorem ok_law38_AllocateShares : FunOk Try.prog fn_law38_AllocateShares :=
  FunOk.intro (C := cx_law38_AllocateShares) (p := (.mk [] none .nil (.mk [] none .nil (.mk [] none .nil (.mk [] none (.mk [] none .nil (.mk [] none (.mk [] (some ({ regs := [(0, .one .keep), (1, .one .keep), (2, .one .keep), (7, .one (.own 139)), (8, .one (.data (.int .i64)))], vars := [], arrs := [(139, .arr 3 (.int .i64))] }, [{ e := .x 0, j := { regs := [(0, .one .keep), (2, .one .keep), (7, .one (.own 139))], vars := [], arrs := [(139, .arr 3 (.int .i64))] } }])) (.mk [] none .nil (.mk [] none (.mk [] none (.mk [] none .nil (.mk [] none (.mk [] none .nil (.mk [] none (.mk [] none .nil (.mk [.join [{ e := .n, j := { regs := [(0, .one .keep), (1, .one .keep), (2, .one .keep), (7, .one (.own 139)), (8, .one .keep), (9, .one (.data (.int .i64)))], vars := [], arrs := [(139, .arr 3 (.int .i64))] } }]] none .nil (.mk [] none .nil (.mk [.join [{ e := .n, j := { regs := [(0, .one .keep), (1, .one .keep), (2, .one .keep), (7, .one (.own 139)), (8, .one .keep), (9, .one (.data (.int .i64)))], vars := [], arrs := [(139, .arr 3 (.int .i64))] } }]] none .nil (.mk [] none .nil (.mk [.join [{ e := .n, j := { regs := [(0, .one .keep), (1, .one .keep), (2, .one .keep), (7, .one (.own 139)), (8, .one .keep), (9, .one (.data (.int .i64)))], vars := [], arrs := [(139, .arr 3 (.int .i64))] } }]] none .nil .nil)))))) .nil)) .nil)) .nil) .nil)) .nil) .nil)) (.mk [] none (.mk [] none .nil (.mk [.join [{ e := .n, j := { regs := [(0, .one (.data (.int .i64))), (7, .one (.own 139))], vars := [], arrs := [(139, .arr 3 (.int .i64))] } }]] none .nil (.mk [] none .nil (.mk [.join [{ e := .n, j := { regs := [(0, .one (.data (.int .i64))), (7, .one (.own 139))], vars := [], arrs := [(139, .arr 3 (.int .i64))] } }]] none .nil .nil)))) (.mk [] none (.mk [.fz [7]] none .nil .nil) .nil)))))))
    Try.func3 rfl nmr3 rfl rfl rfl rfl types_ok ⟨ok_law38_awake, ok_second_Mod, ok_allocate_Share, ok_ref38_Share, ok_ref23_SameInts, trivial⟩ mx (fun x => by kernel_rfl)

noncomputable def law38_AllocateSums_L0 (weights : List Int) (all : Int) (i : Int) (w : List Int) : Option ((Int × Int × List Int) ⊕ (Int × List Int)) :=
  bif decide (i < (weights.length : Int)) then (
   gd (inB i weights.length) <|
   gd (fits (w.length + 1) 8) <|
   gd (inB i weights.length) <|
   some (.inl (wi64 (all + (wi64 (weights.getD i.toNat 0))), wi64 (i + 1), w ++ [wi64 (weights.getD i.toNat 0)])))
  else (
   some (.inr (all, w)))

noncomputable def law38_AllocateSums_L2 (s : Int × List Int) (r2 : List Int × Int) (i2 : Int) (k : Int) : Option (Int ⊕ (Unit ⊕ Bool)) :=
  bif decide (k < i2) then (
   gd (inB k r2.1.length) <|
   gd (inB k r2.1.length) <|
   Option.bind (α := Bool) (
     gd (inB i2 s.2.length) <|
     gd (inB k s.2.length) <|
     bif decide (s.2.getD k.toNat 0 ≤ s.2.getD i2.toNat 0) then (
      bif decide (max (r2.1.getD i2.toNat 0) (wi64 (0 - (r2.1.getD i2.toNat 0))) < wi64 ((max (r2.1.getD k.toNat 0) (wi64 (0 - (r2.1.getD k.toNat 0)))) - 1)) then (
       some true)
      else (
       gd (inB i2 s.2.length) <|
       gd (inB k s.2.length) <|
       bif decide (s.2.getD i2.toNat 0 ≤ s.2.getD k.toNat 0) then (
        some (decide (wi64 ((max (r2.1.getD k.toNat 0) (wi64 (0 - (r2.1.getD k.toNat 0)))) + 1) < max (r2.1.getD i2.toNat 0) (wi64 (0 - (r2.1.getD i2.toNat 0))))))
       else (
        some false)))
     else (
      gd (inB i2 s.2.length) <|
      gd (inB k s.2.length) <|
      bif decide (s.2.getD i2.toNat 0 ≤ s.2.getD k.toNat 0) then (
       some (decide (wi64 ((max (r2.1.getD k.toNat 0) (wi64 (0 - (r2.1.getD k.toNat 0)))) + 1) < max (r2.1.getD i2.toNat 0) (wi64 (0 - (r2.1.getD i2.toNat 0))))))
      else (
       some false))) fun s4 =>
   bif s4 then (
    some (.inr (.inr false)))
   else (
    some (.inl (wi64 (k + 1)))))
  else (
   some (.inr (.inl ())))

noncomputable def law38_AllocateSums_L1 (total : Int) (s : Int × List Int) (r2 : List Int × Int) (r3 : List Int × Int) (sum : Int) (i2 : Int) : Option ((Int × Int) ⊕ (Int ⊕ Bool)) :=
  bif decide (i2 < (r2.1.length : Int)) then (
   gd (inB i2 r2.1.length) <|
   gd (inB i2 r2.1.length) <|
   gd (inB i2 r2.1.length) <|
   gd (inB i2 s.2.length) <|
   gd (!decide (s.1 = 0)) <|
   Option.bind (α := Bool) (
     gd (inB i2 r2.1.length) <|
     gd (inB i2 r3.1.length) <|
     bif !decide (r2.1.getD i2.toNat 0 = wi64 (0 - (r3.1.getD i2.toNat 0))) then (
      some true)
     else (
      gd (inB i2 s.2.length) <|
      bif decide (s.2.getD i2.toNat 0 = 0) then (
       gd (inB i2 r2.1.length) <|
       bif !decide (r2.1.getD i2.toNat 0 = 0) then (
        some true)
       else (
        bif decide (max (r2.1.getD i2.toNat 0) (wi64 (0 - (r2.1.getD i2.toNat 0))) < wi64 (Int.tdiv (wi64 ((max (wi64 total) (wi64 (0 - (wi64 total)))) * (s.2.getD i2.toNat 0))) s.1)) then (
         some true)
        else (
         some (decide (wi64 ((wi64 (Int.tdiv (wi64 ((max (wi64 total) (wi64 (0 - (wi64 total)))) * (s.2.getD i2.toNat 0))) s.1)) + 1) < max (r2.1.getD i2.toNat 0) (wi64 (0 - (r2.1.getD i2.toNat 0))))))))
      else (
       bif decide (max (r2.1.getD i2.toNat 0) (wi64 (0 - (r2.1.getD i2.toNat 0))) < wi64 (Int.tdiv (wi64 ((max (wi64 total) (wi64 (0 - (wi64 total)))) * (s.2.getD i2.toNat 0))) s.1)) then (
        some true)
       else (
        some (decide (wi64 ((wi64 (Int.tdiv (wi64 ((max (wi64 total) (wi64 (0 - (wi64 total)))) * (s.2.getD i2.toNat 0))) s.1)) + 1) < max (r2.1.getD i2.toNat 0) (wi64 (0 - (r2.1.getD i2.toNat 0))))))))) fun s3 =>
   bif s3 then (
    some (.inr (.inr false)))
   else (
    (iter (fun x2 => law38_AllocateSums_L2 s r2 i2 x2) 0).bind fun s5 =>
    s5.elim (fun s6 =>
     some (.inl (wi64 (sum + (r2.1.getD i2.toNat 0)), wi64 (i2 + 1))))
    (fun s7 =>
     some (.inr (.inr s7)))))
  else (
   some (.inr (.inl sum)))

noncomputable def law38_AllocateSums (total : Int) (weights : List Int) : Option (Bool) :=
  bif decide (64 < (weights.length : Int)) then (
   (law38_awake).bind fun r =>
   some r)
  else (
   (iter (fun x => law38_AllocateSums_L0 weights x.1 x.2.1 x.2.2) (0, 0, [])).bind fun s =>
   (allocate_Share (wi64 total) s.2).bind fun r2 =>
   (allocate_Share (wi64 (0 - (wi64 total))) s.2).bind fun r3 =>
   bif decide (s.1 = 0) then (
    bif decide (wi64 total = 0) == decide (r2.2 = 0) then (
     bif decide (r2.2 = r3.2) then (
      (law38_awake).bind fun r4 =>
      some r4)
     else (
      some false))
    else (
     some false))
   else (
    Option.bind (α := Bool) (
      bif !decide (r2.2 = 0) then (
       some true)
      else (
       bif !decide (r3.2 = 0) then (
        some true)
       else (
        bif !decide ((r2.1.length : Int) = (s.2.length : Int)) then (
         some true)
        else (
         some (!decide ((r3.1.length : Int) = (s.2.length : Int))))))) fun s2 =>
    bif s2 then (
     some false)
    else (
     (iter (fun x3 => law38_AllocateSums_L1 total s r2 r3 x3.1 x3.2) (0, 0)).bind fun s8 =>
     s8.elim (fun s9 =>
      bif decide (s9 = wi64 total) then (
       (law38_awake).bind fun r5 =>
       some r5)
      else (
       some false))
     (fun s10 =>
      some s10))))

noncomputable def fn_law38_AllocateSums : Fun :=
  { f := 4, np := 2, nr := 1,
    ji := { regs := [(0, .one (.data (.int .i32))), (1, .one (.data (.sl (.int .u16))))], vars := [], arrs := [] },
    jo := { regs := [(0, .one (.data (.bool)))], vars := [], arrs := [] },
    tw := fun x => law38_AllocateSums x.1 x.2 }
noncomputable def cx_law38_AllocateSums : Cx := { Γ := types, ow := [], fs := [fn_law38_awake, fn_allocate_Share], N := 215 }
theorem ok_law38_AllocateSums : FunOk Try.prog fn_law38_AllocateSums :=
  FunOk.intro (C := cx_law38_AllocateSums) (p := (.mk [] none .nil (.mk [] none .nil (.mk [] none .nil (.mk [] none .nil (.mk [] none (.mk [] none .nil (.mk [] none (.mk [] (some ({ regs := [(0, .one .keep), (1, .one .keep), (5, .one (.own 107)), (6, .one (.data (.int .i64))), (7, .one (.data (.int .i64)))], vars := [], arrs := [(107, .arr 3 (.int .i64))] }, [{ e := .x 0, j := { regs := [(0, .one .keep), (5, .one (.own 107)), (6, .one (.data (.int .i64)))], vars := [], arrs := [(107, .arr 3 (.int .i64))] } }])) .nil .nil) .nil)) (.mk [] none .nil (.mk [] none (.mk [.fz [5]] none .nil .nil) (.mk [] none .nil (.mk [] none .nil (.mk [] none (.mk [] none (.mk [.join [{ e := .n, j := { regs := [(5, .one .keep), (6, .one .keep), (8, .one .keep), (9, .one .keep), (11, .one .keep), (93, .one (.data (.bool)))], vars := [], arrs := [] } }]] none .nil .nil) .nil) (.mk [] none .nil (.mk [] none (.mk [] none .nil (.mk [] none (.mk [] (some ({ regs := [(5, .one .keep), (6, .one .keep), (8, .one .keep), (9, .one .keep), (11, .one .keep), (13, .one (.data (.int .i64))), (14, .one (.data (.int .i64)))], vars := [], arrs := [] }, [{ e := .x 2, j := { regs := [(8, .one .keep), (13, .one (.data (.int .i64)))], vars := [], arrs := [] } }, { e := .r, j := { regs := [(4, .one (.data (.bool)))], vars := [], arrs := [] } }])) (.mk [] none .nil (.mk [] none (.mk [] none (.mk [] none .nil (.mk [] none .nil (.mk [] none .nil (.mk [] none (.mk [] none (.mk [.join [{ e := .n, j := { regs := [(5, .one .keep), (6, .one .keep), (8, .one .keep), (9, .one .keep), (11, .one .keep), (13, .one .keep), (14, .one .keep), (15, .one .keep), (161, .one (.data (.bool)))], vars := [], arrs := [] } }]] none .nil .nil) .nil) (.mk [] none .nil (.mk [] none (.mk [] (some ({ regs := [(5, .one .keep), (6, .one .keep), (8, .one .keep), (9, .one .keep), (11, .one .keep), (13, .one .keep), (14, .one .keep), (15, .one .keep), (17, .one (.data (.int .i64)))], vars := [], arrs := [] }, [{ e := .x 4, j := { regs := [(5, .one .keep), (6, .one .keep), (8, .one .keep), (9, .one .keep), (11, .one .keep), (13, .one .keep), (14, .one .keep)], vars := [], arrs := [] } }, { e := .r, j := { regs := [(4, .one (.data (.bool)))], vars := [], arrs := [] } }])) (.mk [] none .nil (.mk [] none (.mk [] none (.mk [] none .nil (.mk [] none (.mk [.join [{ e := .n, j := { regs := [(5, .one .keep), (6, .one .keep), (8, .one .keep), (9, .one .keep), (11, .one .keep), (13, .one .keep), (14, .one .keep), (15, .one .keep), (17, .one .keep), (208, .one (.data (.bool)))], vars := [], arrs := [] } }]] none .nil .nil) .nil)) .nil) .nil)) .nil) .nil)))))) .nil) .nil)) .nil) .nil)) .nil)))))))))))))
    Try.func4 rfl nmr4 rfl rfl rfl rfl types_ok ⟨ok_law38_awake, ok_allocate_Share, trivial⟩ mx (fun x => by kernel_rfl)

noncomputable def cmp_isNaN_int (x : Int) : Option (Bool) :=
  some (!decide (x = x))

noncomputable def fn_cmp_isNaN_int : Fun :=
  { f := 49, np := 1, nr := 1,
    ji := { regs := [(0, .one (.data (.int .i64)))], vars := [], arrs := [] },
    jo := { regs := [(0, .one (.data (.bool)))], vars := [], arrs := [] },
    tw := fun x => cmp_isNaN_int x }
noncomputable def cx_cmp_isNaN_int : Cx := { Γ := types, ow := [], fs := [], N := 6 }
theorem ok_cmp_isNaN_int : FunOk Try.prog fn_cmp_isNaN_int :=
  FunOk.intro (C := cx_cmp_isNaN_int) (p := .nil)
    Try.func49 rfl nmr49 rfl rfl rfl rfl types_ok trivial mx (fun x => by kernel_rfl)

noncomputable def cmp_Compare_int (x : Int) (y : Int) : Option (Int) :=
  (cmp_isNaN_int x).bind fun r =>
  (cmp_isNaN_int y).bind fun r2 =>
  bif r then (
   bif r2 then (
    some 0)
   else (
    some (-1)))
  else (
   bif r2 then (
    some 1)
   else (
    bif decide (x < y) then (
     some (-1))
    else (
     bif decide (y < x) then (
      some 1)
     else (
      some 0))))

noncomputable def fn_cmp_Compare_int : Fun :=
  { f := 46, np := 2, nr := 1,
    ji := { regs := [(0, .one (.data (.int .i64))), (1, .one (.data (.int .i64)))], vars := [], arrs := [] },
    jo := { regs := [(0, .one (.data (.int .i64)))], vars := [], arrs := [] },
    tw := fun x => cmp_Compare_int x.1 x.2 }
noncomputable def cx_cmp_Compare_int : Cx := { Γ := types, ow := [], fs := [fn_cmp_isNaN_int], N := 20 }
theorem ok_cmp_Compare_int : FunOk Try.prog fn_cmp_Compare_int :=
  FunOk.intro (C := cx_cmp_Compare_int) (p := .nil)
    Try.func46 rfl nmr46 rfl rfl rfl rfl types_ok ⟨ok_cmp_isNaN_int, trivial⟩ mx (fun x => by kernel_rfl)

noncomputable def round_Shares_1 (i : Int) (k : Int) (v : Int) (v2 : List Int) (v3 : Int) : Option (Int) :=
  gd (inB k v2.length) <|
  gd (!decide (v3 = 0)) <|
  gd (inB i v2.length) <|
  gd (!decide (v3 = 0)) <|
  (cmp_Compare_int (Int.tmod (wi64 (v * (v2.getD k.toNat 0))) v3) (Int.tmod (wi64 (v * (v2.getD i.toNat 0))) v3)).bind fun r =>
  some r

noncomputable def fn_round_Shares_1 : Fun :=
  { f := 45, np := 5, nr := 1,
    ji := { regs := [(0, .one (.data (.int .i64))), (1, .one (.data (.int .i64))), (2, .one (.sel (.int .i64))), (3, .one (.sel (.sl (.int .i64)))), (4, .one (.sel (.int .i64)))], vars := [], arrs := [] },
    jo := { regs := [(0, .one (.data (.int .i64)))], vars := [], arrs := [] },
    tw := fun x => round_Shares_1 x.1 x.2.1 x.2.2.1 x.2.2.2.1 x.2.2.2.2 }
noncomputable def cx_round_Shares_1 : Cx := { Γ := types, ow := [], fs := [fn_cmp_Compare_int], N := 25 }
theorem ok_round_Shares_1 : FunOk Try.prog fn_round_Shares_1 :=
  FunOk.intro (C := cx_round_Shares_1) (p := .nil)
    Try.func45 rfl nmr45 rfl rfl rfl rfl types_ok ⟨ok_cmp_Compare_int, trivial⟩ mx (fun x => by kernel_rfl)

noncomputable def round_Shares_L0 (weights : List Int) (v : Int) (sum : Int) : Option ((Int × Int) ⊕ (Int ⊕ (List Int × Int))) :=
  bif decide (v < (weights.length : Int)) then (
   gd (inB v weights.length) <|
   Option.bind (α := Bool) (
     bif decide (weights.getD v.toNat 0 < 0) then (
      some true)
     else (
      some (decide (1048576 < weights.getD v.toNat 0)))) fun s2 =>
   bif s2 then (
    some (.inr (.inr ([], 1))))
   else (
    some (.inl (wi64 (v + 1), wi64 (sum + (weights.getD v.toNat 0))))))
  else (
   some (.inr (.inl sum)))

noncomputable def round_Shares_L1 (total : Int) (weights : List Int) (s4 : Int) (left : Int) (v2 : Int) (out : List Int) (order : List Int) : Option ((Int × Int × List Int × List Int) ⊕ (Int × List Int × List Int)) :=
  bif decide (v2 < (weights.length : Int)) then (
   gd (inB v2 weights.length) <|
   gd (!decide (s4 = 0)) <|
   gd (inB v2 out.length) <|
   gd (inB v2 order.length) <|
   gd (inB v2 (out.set v2.toNat (wi64 (Int.tdiv (wi64 (total * (weights.getD v2.toNat 0))) s4))).length) <|
   some (.inl (wi64 (left - ((out.set v2.toNat (wi64 (Int.tdiv (wi64 (total * (weights.getD v2.toNat 0))) s4))).getD v2.toNat 0)), wi64 (v2 + 1), out.set v2.toNat (wi64 (Int.tdiv (wi64 (total * (weights.getD v2.toNat 0))) s4)), order.set v2.toNat v2)))
  else (
   some (.inr (left, out, order)))

noncomputable def round_Shares_L2 (s6 : Int × List Int × List Int) (r : List Int) (v3 : Int) (out2 : List Int) (v4 : List Int) : Option ((Int × List Int × List Int) ⊕ (List Int)) :=
  bif decide (v3 < ((r.take s6.1.toNat).length : Int)) then (
   gd (inB v3 v4.length) <|
   gd (inB (v4.getD v3.toNat 0) out2.length) <|
   gd (inB (v4.getD v3.toNat 0) out2.length) <|
   some (.inl (wi64 (v3 + 1), out2.set ((v4.getD v3.toNat 0).toNat) (wi64 ((out2.getD ((v4.getD v3.toNat 0).toNat) 0) + 1)), v4)))
  else (
   some (.inr out2))

noncomputable def round_Shares (total : Int) (weights : List Int) : Option (List Int × Int) :=
  bif decide (64 < (weights.length : Int)) then (
   some ([], 4))
  else (
   Option.bind (α := Bool) (
     bif decide (total < 0) then (
      some true)
     else (
      some (decide (1099511627776 < total)))) fun s =>
   bif s then (
    some ([], 1))
   else (
    (iter (fun x => round_Shares_L0 weights x.1 x.2) (0, 0)).bind fun s3 =>
    s3.elim (fun s4 =>
     bif decide (s4 = 0) then (
      some ([], 9))
     else (
      gd (makeG 8 (weights.length : Int)) <|
      gd (makeG 8 (weights.length : Int)) <|
      (iter (fun x2 => round_Shares_L1 total weights s4 x2.1 x2.2.1 x2.2.2.1 x2.2.2.2) (total, 0, List.replicate (weights.length : Int).toNat 0, List.replicate (weights.length : Int).toNat 0)).bind fun s6 =>
      (slices_SortStableFunc_int_int (fun h => (round_Shares_1 h.1 h.2.1 total weights s4).bind fun y => some y) s6.2.2).bind fun r =>
      gd (inR 0 s6.1 r.length) <|
      (iter (fun x3 => round_Shares_L2 s6 r x3.1 x3.2.1 x3.2.2) (0, s6.2.1, r.take s6.1.toNat)).bind fun s7 =>
      some (s7, 0)))
    (fun s5 =>
     some (s5.1, s5.2))))

noncomputable def fn_round_Shares : Fun :=
  { f := 32, np := 2, nr := 2,
    ji := { regs := [(0, .one (.data (.int .i64))), (1, .one (.data (.sl (.int .i64))))], vars := [], arrs := [] },
    jo := { regs := [(0, .one (.data (.sl (.int .i64)))), (1, .one (.data (.int .i64)))], vars := [], arrs := [] },
    tw := fun x => round_Shares x.1 x.2 }
noncomputable def cx_round_Shares : Cx := { Γ := types, ow := [], fs := [fn_slices_SortStableFunc_int_int, fn_round_Shares_1], N := 95 }
theorem ok_round_Shares : FunOk Try.prog fn_round_Shares :=
  FunOk.intro (C := cx_round_Shares) (p := (.mk [] none .nil (.mk [] none .nil (.mk [] none (.mk [] none (.mk [.join [{ e := .n, j := { regs := [(2, .one (.ptr 48 0)), (3, .one (.ptr 64 0)), (24, .one (.data (.bool)))], vars := [(48, 3, [.keep]), (64, 22, [.keep])], arrs := [] } }]] none .nil .nil) .nil) (.mk [] none .nil (.mk [] none (.mk [] none .nil (.mk [] none (.mk [] (some ({ regs := [(2, .one (.ptr 48 0)), (3, .one (.ptr 64 0)), (6, .one (.ptr 112 0)), (25, .one .keep), (26, .one .keep), (27, .one (.data (.int .i64)))], vars := [(48, 3, [.keep]), (64, 22, [.keep]), (112, 3, [.data (.int .i64)])], arrs := [] }, [{ e := .x 0, j := { regs := [(2, .one (.ptr 48 0)), (3, .one (.ptr 64 0)), (6, .one (.ptr 112 0))], vars := [(48, 3, [.keep]), (64, 22, [.keep]), (112, 3, [.data (.int .i64)])], arrs := [] } }, { e := .r, j := { regs := [(4, .one (.data (.sl (.int .i64)))), (5, .one (.data (.int .i64)))], vars := [], arrs := [] } }])) (.mk [] none .nil (.mk [] none .nil (.mk [] none (.mk [] none (.mk [] none .nil (.mk [] none (.mk [] none (.mk [.join [{ e := .n, j := { regs := [(2, .one (.ptr 48 0)), (3, .one (.ptr 64 0)), (6, .one (.ptr 112 0)), (8, .one .keep), (25, .one .keep), (26, .one .keep), (27, .one .keep), (36, .one (.data (.bool)))], vars := [(48, 3, [.keep]), (64, 22, [.keep]), (112, 3, [.keep])], arrs := [] } }]] none .nil .nil) .nil) .nil)) .nil) .nil))) .nil) .nil)) (.mk [] none .nil (.mk [] none .nil (.mk [] none .nil (.mk [] none (.mk [] none .nil (.mk [] none (.mk [] (some ({ regs := [(2, .one (.ptr 48 0)), (3, .one (.ptr 64 0)), (6, .one (.ptr 112 0)), (9, .one (.own 736)), (10, .one (.own 784)), (11, .one (.data (.int .i64))), (50, .one .keep), (51, .one .keep), (52, .one (.data (.int .i64)))], vars := [(48, 3, [.keep]), (64, 22, [.keep]), (112, 3, [.keep])], arrs := [(736, .arr 3 (.int .i64)), (784, .arr 3 (.int .i64))] }, [{ e := .x 2, j := { regs := [(2, .one (.ptr 48 0)), (3, .one (.ptr 64 0)), (6, .one (.ptr 112 0)), (9, .one (.own 736)), (10, .one (.own 784)), (11, .one (.data (.int .i64)))], vars := [(48, 3, [.keep]), (64, 22, [.keep]), (112, 3, [.keep])], arrs := [(736, .arr 3 (.int .i64)), (784, .arr 3 (.int .i64))] } }])) .nil .nil) .nil)) (.mk [] none (.mk [.fv [(2, .int .i64), (3, .sl (.int .i64)), (6, .int .i64)]] none .nil .nil) (.mk [] none (.mk [] none .nil (.mk [] none (.mk [] (some ({ regs := [(9, .one (.own 736)), (81, .one (.own 1312)), (82, .one .keep), (83, .one (.data (.int .i64)))], vars := [], arrs := [(736, .arr 3 (.int .i64)), (1312, .arr 3 (.int .i64))] }, [{ e := .x 4, j := { regs := [(9, .one (.own 736))], vars := [], arrs := [(736, .arr 3 (.int .i64))] } }])) .nil .nil) .nil)) .nil))))))))))))
    Try.func32 rfl nmr32 rfl rfl rfl rfl types_ok ⟨ok_slices_SortStableFunc_int_int, ok_round_Shares_1, trivial⟩ mx (fun x => by kernel_rfl)

noncomputable def round_divide (a : Int) (b : Int) : Option (Int × Int × Bool) :=
  Option.bind (α := Bool) (
    bif decide (b < 1) then (
     some true)
    else (
     bif decide (1099511627776 < b) then (
      some true)
     else (
      bif decide (a < (-2305843009213693952)) then (
       some true)
      else (
       some (decide (2305843009213693952 < a)))))) fun s =>
  bif s then (
   some (0, 0, false))
  else (
   gd (!decide (b = 0)) <|
   gd (!decide (b = 0)) <|
   Option.bind (α := Int × Int) (
     bif decide (Int.tmod a b < 0) then (
      some (wi64 ((wi64 (Int.tdiv a b)) - 1), wi64 ((Int.tmod a b) + b)))
     else (
      some (wi64 (Int.tdiv a b), Int.tmod a b))) fun s2 =>
   some (s2.1, s2.2, true))

noncomputable def fn_round_divide : Fun :=
  { f := 42, np := 2, nr := 3,
    ji := { regs := [(0, .one (.data (.int .i64))), (1, .one (.data (.int .i64)))], vars := [], arrs := [] },
    jo := { regs := [(0, .one (.data (.int .i64))), (1, .one (.data (.int .i64))), (2, .one (.data (.bool)))], vars := [], arrs := [] },
    tw := fun x => round_divide x.1 x.2 }
noncomputable def cx_round_divide : Cx := { Γ := types, ow := [], fs := [], N := 38 }
theorem ok_round_divide : FunOk Try.prog fn_round_divide :=
  FunOk.intro (C := cx_round_divide) (p := (.mk [] none .nil (.mk [] none (.mk [] none (.mk [.join [{ e := .n, j := { regs := [(0, .one .keep), (1, .one .keep), (22, .one (.data (.bool)))], vars := [], arrs := [] } }]] none .nil .nil) .nil) (.mk [] none .nil (.mk [] none (.mk [] none .nil (.mk [.join [{ e := .n, j := { regs := [(7, .one (.data (.int .i64))), (8, .one (.data (.int .i64)))], vars := [], arrs := [] } }]] none .nil .nil)) .nil)))))
    Try.func42 rfl nmr42 rfl rfl rfl rfl types_ok trivial mx (fun x => by kernel_rfl)

noncomputable def round_Down (a : Int) (b : Int) : Option (Int) :=
  (round_divide a b).bind fun r =>
  some r.1

noncomputable def fn_round_Down : Fun :=
  { f := 20, np := 2, nr := 1,
    ji := { regs := [(0, .one (.data (.int .i64))), (1, .one (.data (.int .i64)))], vars := [], arrs := [] },
    jo := { regs := [(0, .one (.data (.int .i64)))], vars := [], arrs := [] },
    tw := fun x => round_Down x.1 x.2 }
noncomputable def cx_round_Down : Cx := { Γ := types, ow := [], fs := [fn_round_divide], N := 16 }
theorem ok_round_Down : FunOk Try.prog fn_round_Down :=
  FunOk.intro (C := cx_round_Down) (p := .nil)
    Try.func20 rfl nmr20 rfl rfl rfl rfl types_ok ⟨ok_round_divide, trivial⟩ mx (fun x => by kernel_rfl)

noncomputable def round_Up (a : Int) (b : Int) : Option (Int) :=
  (round_divide a b).bind fun r =>
  Option.bind (α := Bool) (
    bif r.2.2 then (
     some (decide (0 < r.2.1)))
    else (
     some false)) fun s =>
  bif s then (
   some (wi64 (r.1 + 1)))
  else (
   some r.1)

noncomputable def fn_round_Up : Fun :=
  { f := 22, np := 2, nr := 1,
    ji := { regs := [(0, .one (.data (.int .i64))), (1, .one (.data (.int .i64)))], vars := [], arrs := [] },
    jo := { regs := [(0, .one (.data (.int .i64)))], vars := [], arrs := [] },
    tw := fun x => round_Up x.1 x.2 }
noncomputable def cx_round_Up : Cx := { Γ := types, ow := [], fs := [fn_round_divide], N := 23 }
theorem ok_round_Up : FunOk Try.prog fn_round_Up :=
  FunOk.intro (C := cx_round_Up) (p := (.mk [] none .nil (.mk [] none .nil (.mk [] none (.mk [] none (.mk [.join [{ e := .n, j := { regs := [(5, .one .keep), (19, .one (.data (.bool)))], vars := [], arrs := [] } }]] none .nil .nil) .nil) .nil))))
    Try.func22 rfl nmr22 rfl rfl rfl rfl types_ok ⟨ok_round_divide, trivial⟩ mx (fun x => by kernel_rfl)

noncomputable def round_Half (a : Int) (b : Int) : Option (Int) :=
  (round_divide a b).bind fun r =>
  Option.bind (α := Bool) (
    bif r.2.2 then (
     some (decide (b ≤ wi64 (2 * r.2.1))))
    else (
     some false)) fun s =>
  bif s then (
   some (wi64 (r.1 + 1)))
  else (
   some r.1)

noncomputable def fn_round_Half : Fun :=
  { f := 24, np := 2, nr := 1,
    ji := { regs := [(0, .one (.data (.int .i64))), (1, .one (.data (.int .i64)))], vars := [], arrs := [] },
    jo := { regs := [(0, .one (.data (.int .i64)))], vars := [], arrs := [] },
    tw := fun x => round_Half x.1 x.2 }
noncomputable def cx_round_Half : Cx := { Γ := types, ow := [], fs := [fn_round_divide], N := 25 }
theorem ok_round_Half : FunOk Try.prog fn_round_Half :=
  FunOk.intro (C := cx_round_Half) (p := (.mk [] none .nil (.mk [] none .nil (.mk [] none (.mk [] none (.mk [.join [{ e := .n, j := { regs := [(5, .one .keep), (21, .one (.data (.bool)))], vars := [], arrs := [] } }]] none .nil .nil) .nil) .nil))))
    Try.func24 rfl nmr24 rfl rfl rfl rfl types_ok ⟨ok_round_divide, trivial⟩ mx (fun x => by kernel_rfl)

noncomputable def round_Root_L0 (n : Int) (r : Int) (bit : Int) : Option ((Int × Int) ⊕ Int) :=
  bif decide (0 < bit) then (
   Option.bind (α := Bool) (
     bif decide (wi64 (r + bit) ≤ 2147483648) then (
      some (decide (wi64 ((wi64 (r + bit)) * (wi64 (r + bit))) ≤ n)))
     else (
      some false)) fun s2 =>
   Option.bind (α := Int) (
     bif s2 then (
      some (wi64 (r + bit)))
     else (
      some r)) fun s3 =>
   some (.inl (s3, wi64 (Int.tdiv bit 2))))
  else (
   some (.inr r))

noncomputable def round_Root (n : Int) : Option (Int) :=
  Option.bind (α := Bool) (
    bif decide (n < 0) then (
     some true)
    else (
     some (decide (4611686018427387904 < n)))) fun s =>
  bif s then (
   some 0)
  else (
   (iter (fun x => round_Root_L0 n x.1 x.2) (0, 2147483648)).bind fun s4 =>
   some s4)

noncomputable def fn_round_Root : Fun :=
  { f := 26, np := 1, nr := 1,
    ji := { regs := [(0, .one (.data (.int .i64)))], vars := [], arrs := [] },
    jo := { regs := [(0, .one (.data (.int .i64)))], vars := [], arrs := [] },
    tw := fun x => round_Root x }
noncomputable def cx_round_Root : Cx := { Γ := types, ow := [], fs := [], N := 34 }
theorem ok_round_Root : FunOk Try.prog fn_round_Root :=
  FunOk.intro (C := cx_round_Root) (p := (.mk [] none .nil (.mk [] none (.mk [] none (.mk [.join [{ e := .n, j := { regs := [(0, .one .keep), (10, .one (.data (.bool)))], vars := [], arrs := [] } }]] none .nil .nil) .nil) (.mk [] none .nil (.mk [] none (.mk [] none .nil (.mk [] none (.mk [] (some ({ regs := [(0, .one .keep), (3, .one (.data (.int .i64))), (4, .one (.data (.int .i64)))], vars := [], arrs := [] }, [{ e := .x 0, j := { regs := [(3, .one (.data (.int .i64)))], vars := [], arrs := [] } }])) (.mk [] none .nil (.mk [] none (.mk [] none (.mk [] none (.mk [.join [{ e := .n, j := { regs := [(0, .one .keep), (3, .one .keep), (4, .one .keep), (29, .one (.data (.bool)))], vars := [], arrs := [] } }]] none .nil .nil) (.mk [.join [{ e := .n, j := { regs := [(0, .one .keep), (3, .one (.data (.int .i64))), (4, .one .keep)], vars := [], arrs := [] } }]] none .nil .nil)) .nil) .nil)) .nil) .nil)) .nil)))))
    Try.func26 rfl nmr26 rfl rfl rfl rfl types_ok trivial mx (fun x => by kernel_rfl)

noncomputable def round_RootUp (n : Int) : Option (Int) :=
  (round_Root n).bind fun r =>
  Option.bind (α := Bool) (
    bif decide (0 < n) then (
     bif decide (n ≤ 4611686018427387904) then (
      some (decide (wi64 (r * r) < n)))
     else (
      some false))
    else (
     some false)) fun s =>
  bif s then (
   some (wi64 (r + 1)))
  else (
   some r)

noncomputable def fn_round_RootUp : Fun :=
  { f := 28, np := 1, nr := 1,
    ji := { regs := [(0, .one (.data (.int .i64)))], vars := [], arrs := [] },
    jo := { regs := [(0, .one (.data (.int .i64)))], vars := [], arrs := [] },
    tw := fun x => round_RootUp x }
noncomputable def cx_round_RootUp : Cx := { Γ := types, ow := [], fs := [fn_round_Root], N := 22 }
theorem ok_round_RootUp : FunOk Try.prog fn_round_RootUp :=
  FunOk.intro (C := cx_round_RootUp) (p := (.mk [] none .nil (.mk [] none .nil (.mk [] none (.mk [] none (.mk [.join [{ e := .n, j := { regs := [(3, .one .keep), (18, .one (.data (.bool)))], vars := [], arrs := [] } }]] none .nil .nil) .nil) .nil))))
    Try.func28 rfl nmr28 rfl rfl rfl rfl types_ok ⟨ok_round_Root, trivial⟩ mx (fun x => by kernel_rfl)

noncomputable def keep_Ints_L0 (a : List Int) (b : List Int) (v : Int) : Option (Int ⊕ (Unit ⊕ Bool)) :=
  bif decide (v < (a.length : Int)) then (
   gd (inB v a.length) <|
   gd (inB v b.length) <|
   bif !decide (a.getD v.toNat 0 = b.getD v.toNat 0) then (
    some (.inr (.inr false)))
   else (
    some (.inl (wi64 (v + 1)))))
  else (
   some (.inr (.inl ())))

noncomputable def keep_Ints (a : List Int) (b : List Int) : Option (Bool) :=
  bif !decide ((a.length : Int) = (b.length : Int)) then (
   some false)
  else (
   (iter (fun x => keep_Ints_L0 a b x) 0).bind fun s =>
   s.elim (fun s2 =>
    some true)
   (fun s3 =>
    some s3))

noncomputable def fn_keep_Ints : Fun :=
  { f := 34, np := 2, nr := 1,
    ji := { regs := [(0, .one (.data (.sl (.int .i64)))), (1, .one (.data (.sl (.int .i64))))], vars := [], arrs := [] },
    jo := { regs := [(0, .one (.data (.bool)))], vars := [], arrs := [] },
    tw := fun x => keep_Ints x.1 x.2 }
noncomputable def cx_keep_Ints : Cx := { Γ := types, ow := [], fs := [], N := 26 }
theorem ok_keep_Ints : FunOk Try.prog fn_keep_Ints :=
  FunOk.intro (C := cx_keep_Ints) (p := (.mk [] none .nil (.mk [] none .nil (.mk [] none (.mk [] none .nil (.mk [] none (.mk [] (some ({ regs := [(0, .one .keep), (1, .one .keep), (12, .one .keep), (13, .one (.data (.int .i64)))], vars := [], arrs := [] }, [{ e := .x 0, j := { regs := [], vars := [], arrs := [] } }, { e := .r, j := { regs := [(4, .one (.data (.bool)))], vars := [], arrs := [] } }])) .nil .nil) .nil)) .nil))))
    Try.func34 rfl nmr34 rfl rfl rfl rfl types_ok trivial mx (fun x => by kernel_rfl)

noncomputable def law01_awake : Option (Bool) :=
  (round_Shares 5 [2, 0, 3, 3]).bind fun r =>
  (round_Down (-7) 2).bind fun r2 =>
  bif decide (r2 = (-4)) then (
   (round_Up (-7) 2).bind fun r3 =>
   bif decide (r3 = (-3)) then (
    (round_Half 7 2).bind fun r4 =>
    bif decide (r4 = 4) then (
     (round_RootUp 8).bind fun r5 =>
     bif decide (r5 = 3) then (
      bif decide (r.2 = 0) then (
       (keep_Ints r.1 [1, 0, 2, 2]).bind fun r6 =>
       some r6)
      else (
       some false))
     else (
      some false))
    else (
     some false))
   else (
    some false))
  else (
   some false)

noncomputable def fn_law01_awake : Fun :=
  { f := 16, np := 0, nr := 1,
    ji := { regs := [], vars := [], arrs := [] },
    jo := { regs := [(0, .one (.data (.bool)))], vars := [], arrs := [] },
    tw := fun x => law01_awake }
noncomputable def cx_law01_awake : Cx := { Γ := types, ow := [], fs := [fn_round_Shares, fn_round_Down, fn_round_Up, fn_round_Half, fn_round_RootUp, fn_keep_Ints], N := 31 }
theorem ok_law01_awake : FunOk Try.prog fn_law01_awake :=
  FunOk.intro (C := cx_law01_awake) (p := .nil)
    Try.func16 rfl nmr16 rfl rfl rfl rfl types_ok ⟨ok_round_Shares, ok_round_Down, ok_round_Up, ok_round_Half, ok_round_RootUp, ok_keep_Ints, trivial⟩ mx (fun x => by kernel_rfl)

noncomputable def keep_New (l : List Int) : Option (List Int × Int) :=
  gd (cutG none (some (.i64, min (l.length : Int) 2000)) l.length) <|
  some (l.take (min (l.length : Int) 2000).toNat, 0)

noncomputable def fn_keep_New : Fun :=
  { f := 17, np := 1, nr := 1,
    ji := { regs := [(0, .one (.data (.sl (.int .i64))))], vars := [], arrs := [] },
    jo := { regs := [(0, .one (.ptr 0 0))], vars := [(0, 55, [.data (.sl (.int .i64)), .data (.int .i64)])], arrs := [] },
    tw := fun x => keep_New x }
noncomputable def cx_keep_New : Cx := { Γ := types, ow := [], fs := [], N := 10 }
theorem ok_keep_New : FunOk Try.prog fn_keep_New :=
  FunOk.intro (C := cx_keep_New) (p := .nil)
    Try.func17 rfl nmr17 rfl rfl rfl rfl types_ok trivial mx (fun x => by kernel_rfl)

noncomputable def keep_Src_Raw (s : List Int) (s2 : Int) : Option (Int × List Int × Int) :=
  bif decide ((s.length : Int) ≤ s2) then (
   some (0, s, s2))
  else (
   gd (inB (wi64 ((wi64 (s2 + 1)) - 1)) s.length) <|
   some (s.getD (wi64 ((wi64 (s2 + 1)) - 1)).toNat 0, s, wi64 (s2 + 1)))

noncomputable def fn_keep_Src_Raw : Fun :=
  { f := 44, np := 1, nr := 1,
    ji := { regs := [(0, .one (.ptr 0 0))], vars := [(0, 55, [.data (.sl (.int .i64)), .data (.int .i64)])], arrs := [] },
    jo := { regs := [(0, .one (.data (.int .i64)))], vars := [(0, 55, [.data (.sl (.int .i64)), .data (.int .i64)])], arrs := [] },
    tw := fun x => keep_Src_Raw x.1 x.2 }
noncomputable def cx_keep_Src_Raw : Cx := { Γ := types, ow := [], fs := [], N := 31 }
theorem ok_keep_Src_Raw : FunOk Try.prog fn_keep_Src_Raw :=
  FunOk.intro (C := cx_keep_Src_Raw) (p := .nil)
    Try.func44 rfl nmr44 rfl rfl rfl rfl types_ok trivial mx (fun x => by kernel_rfl)

noncomputable def keep_Src_N (n : Int) (s : List Int) (s2 : Int) : Option (Int × List Int × Int) :=
  (keep_Src_Raw s s2).bind fun r =>
  (keep_Mod r.1 n).bind fun r2 =>
  some (r2, r.2.1, r.2.2)

noncomputable def fn_keep_Src_N : Fun :=
  { f := 30, np := 2, nr := 1,
    ji := { regs := [(0, .one (.ptr 0 0)), (1, .one (.data (.int .i64)))], vars := [(0, 55, [.data (.sl (.int .i64)), .data (.int .i64)])], arrs := [] },
    jo := { regs := [(0, .one (.data (.int .i64)))], vars := [(0, 55, [.data (.sl (.int .i64)), .data (.int .i64)])], arrs := [] },
    tw := fun x => keep_Src_N x.1 x.2.1 x.2.2 }
noncomputable def cx_keep_Src_N : Cx := { Γ := types, ow := [], fs := [fn_keep_Src_Raw, fn_keep_Mod], N := 9 }
theorem ok_keep_Src_N : FunOk Try.prog fn_keep_Src_N :=
  FunOk.intro (C := cx_keep_Src_N) (p := .nil)
    Try.func30 rfl nmr30 rfl rfl rfl rfl types_ok ⟨ok_keep_Src_Raw, ok_keep_Mod, trivial⟩ mx (fun x => by kernel_rfl)

noncomputable def keep_Src_Range (lo : Int) (hi : Int) (s : List Int) (s2 : Int) : Option (Int × List Int × Int) :=
  (keep_Src_N (wi64 ((wi64 (hi - lo)) + 1)) s s2).bind fun r =>
  some (wi64 (lo + r.1), r.2.1, r.2.2)

noncomputable def fn_keep_Src_Range : Fun :=
  { f := 18, np := 3, nr := 1,
    ji := { regs := [(0, .one (.ptr 0 0)), (1, .one (.data (.int .i64))), (2, .one (.data (.int .i64)))], vars := [(0, 55, [.data (.sl (.int .i64)), .data (.int .i64)])], arrs := [] },
    jo := { regs := [(0, .one (.data (.int .i64)))], vars := [(0, 55, [.data (.sl (.int .i64)), .data (.int .i64)])], arrs := [] },
    tw := fun x => keep_Src_Range x.1 x.2.1 x.2.2.1 x.2.2.2 }
noncomputable def cx_keep_Src_Range : Cx := { Γ := types, ow := [], fs := [fn_keep_Src_N], N := 15 }
theorem ok_keep_Src_Range : FunOk Try.prog fn_keep_Src_Range :=
  FunOk.intro (C := cx_keep_Src_Range) (p := .nil)
    Try.func18 rfl nmr18 rfl rfl rfl rfl types_ok ⟨ok_keep_Src_N, trivial⟩ mx (fun x => by kernel_rfl)

noncomputable def ref01_proper (a : Int) (b : Int) : Option (Bool) :=
  bif decide (1 ≤ b) then (
   bif decide (b ≤ 1099511627776) then (
    bif decide ((-2305843009213693952) ≤ a) then (
     some (decide (a ≤ 2305843009213693952)))
    else (
     some false))
   else (
    some false))
  else (
   some false)

noncomputable def fn_ref01_proper : Fun :=
  { f := 43, np := 2, nr := 1,
    ji := { regs := [(0, .one (.data (.int .i64))), (1, .one (.data (.int .i64)))], vars := [], arrs := [] },
    jo := { regs := [(0, .one (.data (.bool)))], vars := [], arrs := [] },
    tw := fun x => ref01_proper x.1 x.2 }
noncomputable def cx_ref01_proper : Cx := { Γ := types, ow := [], fs := [], N := 19 }
theorem ok_ref01_proper : FunOk Try.prog fn_ref01_proper :=
  FunOk.intro (C := cx_ref01_proper) (p := .nil)
    Try.func43 rfl nmr43 rfl rfl rfl rfl types_ok trivial mx (fun x => by kernel_rfl)

noncomputable def ref01_Down (a : Int) (b : Int) : Option (Int) :=
  (ref01_proper a b).bind fun r =>
  bif !r then (
   some 0)
  else (
   gd (!decide (b = 0)) <|
   gd (!decide (b = 0)) <|
   bif decide (Int.tmod a b < 0) then (
    some (wi64 ((wi64 (Int.tdiv a b)) - 1)))
   else (
    some (wi64 (Int.tdiv a b))))

noncomputable def fn_ref01_Down : Fun :=
  { f := 21, np := 2, nr := 1,
    ji := { regs := [(0, .one (.data (.int .i64))), (1, .one (.data (.int .i64)))], vars := [], arrs := [] },
    jo := { regs := [(0, .one (.data (.int .i64)))], vars := [], arrs := [] },
    tw := fun x => ref01_Down x.1 x.2 }
noncomputable def cx_ref01_Down : Cx := { Γ := types, ow := [], fs := [fn_ref01_proper], N := 20 }
theorem ok_ref01_Down : FunOk Try.prog fn_ref01_Down :=
  FunOk.intro (C := cx_ref01_Down) (p := .nil)
    Try.func21 rfl nmr21 rfl rfl rfl rfl types_ok ⟨ok_ref01_proper, trivial⟩ mx (fun x => by kernel_rfl)

noncomputable def ref01_Up (a : Int) (b : Int) : Option (Int) :=
  (ref01_proper a b).bind fun r =>
  bif !r then (
   some 0)
  else (
   gd (!decide (b = 0)) <|
   gd (!decide (b = 0)) <|
   bif decide (0 < Int.tmod a b) then (
    some (wi64 ((wi64 (Int.tdiv a b)) + 1)))
   else (
    some (wi64 (Int.tdiv a b))))

noncomputable def fn_ref01_Up : Fun :=
  { f := 23, np := 2, nr := 1,
    ji := { regs := [(0, .one (.data (.int .i64))), (1, .one (.data (.int .i64)))], vars := [], arrs := [] },
    jo := { regs := [(0, .one (.data (.int .i64)))], vars := [], arrs := [] },
    tw := fun x => ref01_Up x.1 x.2 }
noncomputable def cx_ref01_Up : Cx := { Γ := types, ow := [], fs := [fn_ref01_proper], N := 20 }
theorem ok_ref01_Up : FunOk Try.prog fn_ref01_Up :=
  FunOk.intro (C := cx_ref01_Up) (p := .nil)
    Try.func23 rfl nmr23 rfl rfl rfl rfl types_ok ⟨ok_ref01_proper, trivial⟩ mx (fun x => by kernel_rfl)

noncomputable def ref01_Half (a : Int) (b : Int) : Option (Int) :=
  (ref01_proper a b).bind fun r =>
  bif !r then (
   some 0)
  else (
   (ref01_Down a b).bind fun r2 =>
   bif decide (b ≤ wi64 (2 * (wi64 (a - (wi64 (r2 * b)))))) then (
    some (wi64 (r2 + 1)))
   else (
    some r2))

noncomputable def fn_ref01_Half : Fun :=
  { f := 25, np := 2, nr := 1,
    ji := { regs := [(0, .one (.data (.int .i64))), (1, .one (.data (.int .i64)))], vars := [], arrs := [] },
    jo := { regs := [(0, .one (.data (.int .i64)))], vars := [], arrs := [] },
    tw := fun x => ref01_Half x.1 x.2 }
noncomputable def cx_ref01_Half : Cx := { Γ := types, ow := [], fs := [fn_ref01_proper, fn_ref01_Down], N := 24 }
theorem ok_ref01_Half : FunOk Try.prog fn_ref01_Half :=
  FunOk.intro (C := cx_ref01_Half) (p := .nil)
    Try.func25 rfl nmr25 rfl rfl rfl rfl types_ok ⟨ok_ref01_proper, ok_ref01_Down, trivial⟩ mx (fun x => by kernel_rfl)

noncomputable def ref01_Root_L0 (n : Int) (r : Int) (bit : Int) : Option ((Int × Int) ⊕ Int) :=
  bif decide (0 < bit) then (
   Option.bind (α := Bool) (
     bif decide (wi64 (r + bit) ≤ 2147483648) then (
      some (decide (wi64 ((wi64 (r + bit)) * (wi64 (r + bit))) ≤ n)))
     else (
      some false)) fun s2 =>
   Option.bind (α := Int) (
     bif s2 then (
      some (wi64 (r + bit)))
     else (
      some r)) fun s3 =>
   some (.inl (s3, Int.fdiv bit (2 ^ shAmt .i64 1))))
  else (
   some (.inr r))

noncomputable def ref01_Root (n : Int) : Option (Int) :=
  Option.bind (α := Bool) (
    bif decide (n < 0) then (
     some true)
    else (
     some (decide (4611686018427387904 < n)))) fun s =>
  bif s then (
   some 0)
  else (
   (iter (fun x => ref01_Root_L0 n x.1 x.2) (0, 2147483648)).bind fun s4 =>
   some s4)

noncomputable def fn_ref01_Root : Fun :=
  { f := 27, np := 1, nr := 1,
    ji := { regs := [(0, .one (.data (.int .i64)))], vars := [], arrs := [] },
    jo := { regs := [(0, .one (.data (.int .i64)))], vars := [], arrs := [] },
    tw := fun x => ref01_Root x }
noncomputable def cx_ref01_Root : Cx := { Γ := types, ow := [], fs := [], N := 34 }
theorem ok_ref01_Root : FunOk Try.prog fn_ref01_Root :=
  FunOk.intro (C := cx_ref01_Root) (p := (.mk [] none .nil (.mk [] none (.mk [] none (.mk [.join [{ e := .n, j := { regs := [(0, .one .keep), (10, .one (.data (.bool)))], vars := [], arrs := [] } }]] none .nil .nil) .nil) (.mk [] none .nil (.mk [] none (.mk [] none .nil (.mk [] none (.mk [] (some ({ regs := [(0, .one .keep), (3, .one (.data (.int .i64))), (4, .one (.data (.int .i64)))], vars := [], arrs := [] }, [{ e := .x 0, j := { regs := [(3, .one (.data (.int .i64)))], vars := [], arrs := [] } }])) (.mk [] none .nil (.mk [] none (.mk [] none (.mk [] none (.mk [.join [{ e := .n, j := { regs := [(0, .one .keep), (3, .one .keep), (4, .one .keep), (29, .one (.data (.bool)))], vars := [], arrs := [] } }]] none .nil .nil) (.mk [.join [{ e := .n, j := { regs := [(0, .one .keep), (3, .one (.data (.int .i64))), (4, .one .keep)], vars := [], arrs := [] } }]] none .nil .nil)) .nil) .nil)) .nil) .nil)) .nil)))))
    Try.func27 rfl nmr27 rfl rfl rfl rfl types_ok trivial mx (fun x => by kernel_rfl)

noncomputable def ref01_RootUp (n : Int) : Option (Int) :=
  (ref01_Root n).bind fun r =>
  Option.bind (α := Bool) (
    bif decide (0 ≤ n) then (
     bif decide (n ≤ 4611686018427387904) then (
      some (decide (wi64 (r * r) < n)))
     else (
      some false))
    else (
     some false)) fun s =>
  bif s then (
   some (wi64 (r + 1)))
  else (
   some r)

noncomputable def fn_ref01_RootUp : Fun :=
  { f := 29, np := 1, nr := 1,
    ji := { regs := [(0, .one (.data (.int .i64)))], vars := [], arrs := [] },
    jo := { regs := [(0, .one (.data (.int .i64)))], vars := [], arrs := [] },
    tw := fun x => ref01_RootUp x }
noncomputable def cx_ref01_RootUp : Cx := { Γ := types, ow := [], fs := [fn_ref01_Root], N := 22 }
theorem ok_ref01_RootUp : FunOk Try.prog fn_ref01_RootUp :=
  FunOk.intro (C := cx_ref01_RootUp) (p := (.mk [] none .nil (.mk [] none .nil (.mk [] none (.mk [] none (.mk [.join [{ e := .n, j := { regs := [(3, .one .keep), (18, .one (.data (.bool)))], vars := [], arrs := [] } }]] none .nil .nil) .nil) .nil))))
    Try.func29 rfl nmr29 rfl rfl rfl rfl types_ok ⟨ok_ref01_Root, trivial⟩ mx (fun x => by kernel_rfl)

noncomputable def keep_Src_Pick (l : List Int) (s : List Int) (s2 : Int) : Option (Int × List Int × Int) :=
  (keep_Src_N (l.length : Int) s s2).bind fun r =>
  gd (inB r.1 l.length) <|
  some (l.getD r.1.toNat 0, r.2.1, r.2.2)

noncomputable def fn_keep_Src_Pick : Fun :=
  { f := 31, np := 2, nr := 1,
    ji := { regs := [(0, .one (.ptr 0 0)), (1, .one (.data (.sl (.int .i64))))], vars := [(0, 55, [.data (.sl (.int .i64)), .data (.int .i64)])], arrs := [] },
    jo := { regs := [(0, .one (.data (.int .i64)))], vars := [(0, 55, [.data (.sl (.int .i64)), .data (.int .i64)])], arrs := [] },
    tw := fun x => keep_Src_Pick x.1 x.2.1 x.2.2 }
noncomputable def cx_keep_Src_Pick : Cx := { Γ := types, ow := [], fs := [fn_keep_Src_N], N := 12 }
theorem ok_keep_Src_Pick : FunOk Try.prog fn_keep_Src_Pick :=
  FunOk.intro (C := cx_keep_Src_Pick) (p := .nil)
    Try.func31 rfl nmr31 rfl rfl rfl rfl types_ok ⟨ok_keep_Src_N, trivial⟩ mx (fun x => by kernel_rfl)

noncomputable def ref01_Shares_L0 (weights : List Int) (sum : Int) (v : Int) : Option ((Int × Int) ⊕ (Int ⊕ (List Int × Int))) :=
  bif decide (v < (weights.length : Int)) then (
   Option.bind (α := Bool) (
     gd (inB v weights.length) <|
     bif decide (weights.getD v.toNat 0 < 0) then (
      some true)
     else (
      gd (inB v weights.length) <|
      some (decide (1048576 < weights.getD v.toNat 0)))) fun s2 =>
   bif s2 then (
    some (.inr (.inr ([], 1))))
   else (
    gd (inB v weights.length) <|
    some (.inl (wi64 (sum + (weights.getD v.toNat 0)), wi64 (v + 1)))))
  else (
   some (.inr (.inl sum)))

noncomputable def ref01_Shares_L1 (total : Int) (weights : List Int) (s4 : Int) (left : Int) (v2 : Int) (out : List Int) (rest : List Int) : Option ((Int × Int × List Int × List Int) ⊕ (Int × List Int × List Int)) :=
  bif decide (v2 < (weights.length : Int)) then (
   gd (inB v2 weights.length) <|
   gd (!decide (s4 = 0)) <|
   gd (fits (out.length + 1) 8) <|
   gd (inB v2 weights.length) <|
   gd (!decide (s4 = 0)) <|
   gd (fits (rest.length + 1) 8) <|
   gd (inB v2 (out ++ [wi64 (Int.tdiv (wi64 (total * (weights.getD v2.toNat 0))) s4)]).length) <|
   some (.inl (wi64 (left - ((out ++ [wi64 (Int.tdiv (wi64 (total * (weights.getD v2.toNat 0))) s4)]).getD v2.toNat 0)), wi64 (v2 + 1), out ++ [wi64 (Int.tdiv (wi64 (total * (weights.getD v2.toNat 0))) s4)], rest ++ [Int.tmod (wi64 (total * (weights.getD v2.toNat 0))) s4])))
  else (
   some (.inr (left, out, rest)))

noncomputable def ref01_Shares_L3 (rest2 : List Int) (best : Int) (v3 : Int) (out3 : List Int) (rest3 : List Int) : Option ((Int × Int × List Int × List Int) ⊕ (Int × List Int × List Int)) :=
  bif decide (v3 < (rest2.length : Int)) then (
   gd (inB v3 rest3.length) <|
   gd (inB best rest3.length) <|
   Option.bind (α := Int × List Int × List Int) (
     bif decide (rest3.getD best.toNat 0 < rest3.getD v3.toNat 0) then (
      some (v3, out3, rest3))
     else (
      some (best, out3, rest3))) fun s7 =>
   some (.inl (s7.1, wi64 (v3 + 1), s7.2.1, s7.2.2)))
  else (
   some (.inr (best, out3, rest3)))

noncomputable def ref01_Shares_L2 (left2 : Int) (out2 : List Int) (rest2 : List Int) : Option ((Int × List Int × List Int) ⊕ (List Int)) :=
  bif decide (0 < left2) then (
   (iter (fun x3 => ref01_Shares_L3 rest2 x3.1 x3.2.1 x3.2.2.1 x3.2.2.2) (0, 0, out2, rest2)).bind fun s8 =>
   gd (inB s8.1 s8.2.1.length) <|
   gd (inB s8.1 s8.2.1.length) <|
   gd (inB s8.1 s8.2.2.length) <|
   some (.inl (wi64 (left2 - 1), s8.2.1.set s8.1.toNat (wi64 ((s8.2.1.getD s8.1.toNat 0) + 1)), s8.2.2.set s8.1.toNat (-1))))
  else (
   some (.inr out2))

noncomputable def ref01_Shares (total : Int) (weights : List Int) : Option (List Int × Int) :=
  bif decide (64 < (weights.length : Int)) then (
   some ([], 4))
  else (
   Option.bind (α := Bool) (
     bif decide (total < 0) then (
      some true)
     else (
      some (decide (1099511627776 < total)))) fun s =>
   bif s then (
    some ([], 1))
   else (
    (iter (fun x => ref01_Shares_L0 weights x.1 x.2) (0, 0)).bind fun s3 =>
    s3.elim (fun s4 =>
     bif decide (s4 = 0) then (
      some ([], 9))
     else (
      (iter (fun x2 => ref01_Shares_L1 total weights s4 x2.1 x2.2.1 x2.2.2.1 x2.2.2.2) (total, 0, [], [])).bind fun s6 =>
      (iter (fun x4 => ref01_Shares_L2 x4.1 x4.2.1 x4.2.2) (s6.1, s6.2.1, s6.2.2)).bind fun s9 =>
      some (s9, 0)))
    (fun s5 =>
     some (s5.1, s5.2))))

noncomputable def fn_ref01_Shares : Fun :=
  { f := 33, np := 2, nr := 2,
    ji := { regs := [(0, .one (.data (.int .i64))), (1, .one (.data (.sl (.int .i64))))], vars := [], arrs := [] },
    jo := { regs := [(0, .one (.data (.sl (.int .i64)))), (1, .one (.data (.int .i64)))], vars := [], arrs := [] },
    tw := fun x => ref01_Shares x.1 x.2 }
noncomputable def cx_ref01_Shares : Cx := { Γ := types, ow := [], fs := [], N := 114 }
theorem ok_ref01_Shares : FunOk Try.prog fn_ref01_Shares :=
  FunOk.intro (C := cx_ref01_Shares) (p := (.mk [] none .nil (.mk [] none .nil (.mk [] none (.mk [] none (.mk [.join [{ e := .n, j := { regs := [(0, .one .keep), (1, .one .keep), (22, .one (.data (.bool)))], vars := [], arrs := [] } }]] none .nil .nil) .nil) (.mk [] none .nil (.mk [] none (.mk [] none .nil (.mk [] none (.mk [] (some ({ regs := [(0, .one .keep), (1, .one .keep), (6, .one (.data (.int .i64))), (24, .one .keep), (25, .one (.data (.int .i64)))], vars := [], arrs := [] }, [{ e := .x 0, j := { regs := [(0, .one .keep), (1, .one .keep), (6, .one (.data (.int .i64)))], vars := [], arrs := [] } }, { e := .r, j := { regs := [(4, .one (.data (.sl (.int .i64)))), (5, .one (.data (.int .i64)))], vars := [], arrs := [] } }])) (.mk [] none .nil (.mk [] none .nil (.mk [] none (.mk [] none (.mk [] none .nil (.mk [] none (.mk [] none (.mk [.join [{ e := .n, j := { regs := [(0, .one .keep), (1, .one .keep), (6, .one .keep), (7, .one .keep), (24, .one .keep), (25, .one .keep), (39, .one (.data (.bool)))], vars := [], arrs := [] } }]] none .nil .nil) .nil) .nil)) .nil) .nil))) .nil) .nil)) (.mk [] none .nil (.mk [] none .nil (.mk [] none .nil (.mk [] none (.mk [] none .nil (.mk [] none (.mk [] (some ({ regs := [(0, .one .keep), (1, .one .keep), (6, .one .keep), (8, .one (.own 155)), (9, .one (.own 171)), (10, .one (.data (.int .i64))), (51, .one .keep), (52, .one (.data (.int .i64)))], vars := [], arrs := [(155, .arr 3 (.int .i64)), (171, .arr 3 (.int .i64))] }, [{ e := .x 2, j := { regs := [(8, .one (.own 155)), (9, .one (.own 171)), (10, .one (.data (.int .i64)))], vars := [], arrs := [(155, .arr 3 (.int .i64)), (171, .arr 3 (.int .i64))] } }])) .nil .nil) .nil)) (.mk [] none (.mk [] none (.mk [] (some ({ regs := [(8, .one (.own 155)), (9, .one (.own 171)), (10, .one (.data (.int .i64)))], vars := [], arrs := [(155, .arr 3 (.int .i64)), (171, .arr 3 (.int .i64))] }, [{ e := .x 4, j := { regs := [(8, .one (.own 155))], vars := [], arrs := [(155, .arr 3 (.int .i64))] } }])) (.mk [] none .nil (.mk [] none (.mk [] none (.mk [] none .nil (.mk [] none (.mk [] none .nil (.mk [] none (.mk [] (some ({ regs := [(8, .one (.own 155)), (9, .one (.own 171)), (10, .one .keep), (12, .one (.data (.int .i64))), (89, .one .keep), (90, .one (.data (.int .i64)))], vars := [], arrs := [(155, .arr 3 (.int .i64)), (171, .arr 3 (.int .i64))] }, [{ e := .x 6, j := { regs := [(8, .one (.own 155)), (9, .one (.own 171)), (10, .one .keep), (12, .one (.data (.int .i64)))], vars := [], arrs := [(155, .arr 3 (.int .i64)), (171, .arr 3 (.int .i64))] } }])) (.mk [] none .nil (.mk [] none .nil (.mk [] none (.mk [] none (.mk [] none .nil (.mk [] none .nil (.mk [.join [{ e := .n, j := { regs := [(8, .one (.own 155)), (9, .one (.own 171)), (10, .one .keep), (12, .one (.data (.int .i64))), (89, .one .keep), (90, .one .keep)], vars := [], arrs := [(155, .arr 3 (.int .i64)), (171, .arr 3 (.int .i64))] } }]] none .nil .nil))) .nil) .nil))) .nil) .nil)) .nil)) .nil) .nil)) .nil) .nil) .nil)))))))))))
    Try.func33 rfl nmr33 rfl rfl rfl rfl types_ok trivial mx (fun x => by kernel_rfl)

noncomputable def law01_RoundAnswers_L0 (a : Int) (b : Int) (r3 : Int × List Int × Int) (r4 : Int × List Int × Int) (r5 : Int) (v : Int) : Option (Int ⊕ (Unit ⊕ Bool)) :=
  bif decide (v < ([(a, b), (r3.1, r4.1), (Int.tmod a 2305843009213693952, wi64 (1 + r5)), (2305843009213693952, 1), ((-2305843009213693952), 1099511627776)].length : Int)) then (
   gd (inB v [(a, b), (r3.1, r4.1), (Int.tmod a 2305843009213693952, wi64 (1 + r5)), (2305843009213693952, 1), ((-2305843009213693952), 1099511627776)].length) <|
   Option.bind (α := Bool) (
     (round_Down (([(a, b), (r3.1, r4.1), (Int.tmod a 2305843009213693952, wi64 (1 + r5)), (2305843009213693952, 1), ((-2305843009213693952), 1099511627776)].getD v.toNat (0, 0)).1) (([(a, b), (r3.1, r4.1), (Int.tmod a 2305843009213693952, wi64 (1 + r5)), (2305843009213693952, 1), ((-2305843009213693952), 1099511627776)].getD v.toNat (0, 0)).2)).bind fun r6 =>
     (ref01_Down (([(a, b), (r3.1, r4.1), (Int.tmod a 2305843009213693952, wi64 (1 + r5)), (2305843009213693952, 1), ((-2305843009213693952), 1099511627776)].getD v.toNat (0, 0)).1) (([(a, b), (r3.1, r4.1), (Int.tmod a 2305843009213693952, wi64 (1 + r5)), (2305843009213693952, 1), ((-2305843009213693952), 1099511627776)].getD v.toNat (0, 0)).2)).bind fun r7 =>
     bif !decide (r6 = r7) then (
      some true)
     else (
      (round_Up (([(a, b), (r3.1, r4.1), (Int.tmod a 2305843009213693952, wi64 (1 + r5)), (2305843009213693952, 1), ((-2305843009213693952), 1099511627776)].getD v.toNat (0, 0)).1) (([(a, b), (r3.1, r4.1), (Int.tmod a 2305843009213693952, wi64 (1 + r5)), (2305843009213693952, 1), ((-2305843009213693952), 1099511627776)].getD v.toNat (0, 0)).2)).bind fun r8 =>
      (ref01_Up (([(a, b), (r3.1, r4.1), (Int.tmod a 2305843009213693952, wi64 (1 + r5)), (2305843009213693952, 1), ((-2305843009213693952), 1099511627776)].getD v.toNat (0, 0)).1) (([(a, b), (r3.1, r4.1), (Int.tmod a 2305843009213693952, wi64 (1 + r5)), (2305843009213693952, 1), ((-2305843009213693952), 1099511627776)].getD v.toNat (0, 0)).2)).bind fun r9 =>
      bif !decide (r8 = r9) then (
       some true)
      else (
       (round_Half (([(a, b), (r3.1, r4.1), (Int.tmod a 2305843009213693952, wi64 (1 + r5)), (2305843009213693952, 1), ((-2305843009213693952), 1099511627776)].getD v.toNat (0, 0)).1) (([(a, b), (r3.1, r4.1), (Int.tmod a 2305843009213693952, wi64 (1 + r5)), (2305843009213693952, 1), ((-2305843009213693952), 1099511627776)].getD v.toNat (0, 0)).2)).bind fun r10 =>
       (ref01_Half (([(a, b), (r3.1, r4.1), (Int.tmod a 2305843009213693952, wi64 (1 + r5)), (2305843009213693952, 1), ((-2305843009213693952), 1099511627776)].getD v.toNat (0, 0)).1) (([(a, b), (r3.1, r4.1), (Int.tmod a 2305843009213693952, wi64 (1 + r5)), (2305843009213693952, 1), ((-2305843009213693952), 1099511627776)].getD v.toNat (0, 0)).2)).bind fun r11 =>
       bif !decide (r10 = r11) then (
        some true)
       else (
        (round_Root (([(a, b), (r3.1, r4.1), (Int.tmod a 2305843009213693952, wi64 (1 + r5)), (2305843009213693952, 1), ((-2305843009213693952), 1099511627776)].getD v.toNat (0, 0)).1)).bind fun r12 =>
        (ref01_Root (([(a, b), (r3.1, r4.1), (Int.tmod a 2305843009213693952, wi64 (1 + r5)), (2305843009213693952, 1), ((-2305843009213693952), 1099511627776)].getD v.toNat (0, 0)).1)).bind fun r13 =>
        bif !decide (r12 = r13) then (
         some true)
        else (
         (round_RootUp (([(a, b), (r3.1, r4.1), (Int.tmod a 2305843009213693952, wi64 (1 + r5)), (2305843009213693952, 1), ((-2305843009213693952), 1099511627776)].getD v.toNat (0, 0)).1)).bind fun r14 =>
         (ref01_RootUp (([(a, b), (r3.1, r4.1), (Int.tmod a 2305843009213693952, wi64 (1 + r5)), (2305843009213693952, 1), ((-2305843009213693952), 1099511627776)].getD v.toNat (0, 0)).1)).bind fun r15 =>
         some (!decide (r14 = r15))))))) fun s =>
   bif s then (
    some (.inr (.inr false)))
   else (
    some (.inl (wi64 (v + 1)))))
  else (
   some (.inr (.inl ())))

noncomputable def law01_RoundAnswers_L1 (i : Int) (d : List Int) (d2 : Int) (vsome : List Int) : Option ((Int × List Int × Int × List Int) ⊕ (List Int × Int × List Int)) :=
  bif decide (0 < i) then (
   (keep_Src_N 100 d d2).bind fun r17 =>
   (keep_Src_Pick [0, 1, 3, 7, 1048576, r17.1] r17.2.1 r17.2.2).bind fun r18 =>
   gd (fits (vsome.length + 1) 8) <|
   some (.inl (wi64 (i - 1), r18.2.1, r18.2.2, vsome ++ [r18.1])))
  else (
   some (.inr (d, d2, vsome)))

noncomputable def law01_RoundAnswers_L3 (total : Int) (weights : List Int) (s5 : List Int × Int × List Int) (v2 : Int) (r19 : Int × List Int × Int) (v3 : Int) : Option (Int ⊕ (Unit ⊕ Bool)) :=
  bif decide (v3 < ([total, r19.1, 1099511627776].length : Int)) then (
   gd (inB v3 [total, r19.1, 1099511627776].length) <|
   (round_Shares ([total, r19.1, 1099511627776].getD v3.toNat 0) ([weights, s5.2.2].getD v2.toNat [])).bind fun r20 =>
   (ref01_Shares ([total, r19.1, 1099511627776].getD v3.toNat 0) ([weights, s5.2.2].getD v2.toNat [])).bind fun r21 =>
   Option.bind (α := Bool) (
     (keep_Ints r20.1 r21.1).bind fun r22 =>
     bif !r22 then (
      some true)
     else (
      some (!decide (r20.2 = r21.2)))) fun s6 =>
   bif s6 then (
    some (.inr (.inr false)))
   else (
    some (.inl (wi64 (v3 + 1)))))
  else (
   some (.inr (.inl ())))

noncomputable def law01_RoundAnswers_L2 (total : Int) (weights : List Int) (s5 : List Int × Int × List Int) (v2 : Int) (d3 : List Int) (d4 : Int) : Option ((Int × List Int × Int) ⊕ (Unit ⊕ Bool)) :=
  bif decide (v2 < ([weights, s5.2.2].length : Int)) then (
   gd (inB v2 [weights, s5.2.2].length) <|
   (keep_Src_N 1000 d3 d4).bind fun r19 =>
   (iter (fun x3 => law01_RoundAnswers_L3 total weights s5 v2 r19 x3) 0).bind fun s7 =>
   s7.elim (fun s8 =>
    some (.inl (wi64 (v2 + 1), r19.2.1, r19.2.2)))
   (fun s9 =>
    some (.inr (.inr s9))))
  else (
   some (.inr (.inl ())))

noncomputable def law01_RoundAnswers (a : Int) (b : Int) (total : Int) (weights : List Int) (l : List Int) : Option (Bool) :=
  bif decide (100 < (weights.length : Int)) then (
   (law01_awake).bind fun r =>
   some r)
  else (
   (keep_New l).bind fun r2 =>
   (keep_Src_Range (-60) 60 r2.1 r2.2).bind fun r3 =>
   (keep_Src_Range (-2) 9 r3.2.1 r3.2.2).bind fun r4 =>
   (keep_Mod b 1099511627776).bind fun r5 =>
   (iter (fun x => law01_RoundAnswers_L0 a b r3 r4 r5 x) 0).bind fun s2 =>
   s2.elim (fun s3 =>
    (keep_Src_N 8 r4.2.1 r4.2.2).bind fun r16 =>
    (iter (fun x2 => law01_RoundAnswers_L1 x2.1 x2.2.1 x2.2.2.1 x2.2.2.2) (r16.1, r16.2.1, r16.2.2, [])).bind fun s5 =>
    (iter (fun x4 => law01_RoundAnswers_L2 total weights s5 x4.1 x4.2.1 x4.2.2) (0, s5.1, s5.2.1)).bind fun s10 =>
    s10.elim (fun s11 =>
     (law01_awake).bind fun r23 =>
     some r23)
    (fun s12 =>
     some s12))
   (fun s4 =>
    some s4))

noncomputable def fn_law01_RoundAnswers : Fun :=
  { f := 5, np := 5, nr := 1,
    ji := { regs := [(0, .one (.data (.int .i64))), (1, .one (.data (.int .i64))), (2, .one (.data (.int .i64))), (3, .one (.data (.sl (.int .i64)))), (4, .one (.data (.sl (.int .i64))))], vars := [], arrs := [] },
    jo := { regs := [(0, .one (.data (.bool)))], vars := [], arrs := [] },
    tw := fun x => law01_RoundAnswers x.1 x.2.1 x.2.2.1 x.2.2.2.1 x.2.2.2.2 }
noncomputable def cx_law01_RoundAnswers : Cx := { Γ := types, ow := [], fs := [fn_law01_awake, fn_keep_New, fn_keep_Src_Range, fn_keep_Mod, fn_round_Down, fn_ref01_Down, fn_round_Up, fn_ref01_Up, fn_round_Half, fn_ref01_Half, fn_round_Root, fn_ref01_Root, fn_round_RootUp, fn_ref01_RootUp, fn_keep_Src_N, fn_keep_Src_Pick, fn_round_Shares, fn_ref01_Shares, fn_keep_Ints], N := 163 }
theorem ok_law01_RoundAnswers : FunOk Try.prog fn_law01_RoundAnswers :=
  FunOk.intro (C := cx_law01_RoundAnswers) (p := (.mk [] none .nil (.mk [] none .nil (.mk [] none .nil (.mk [] none (.mk [] none .nil (.mk [] none (.mk [] (some ({ regs := [(2, .one .keep), (3, .one .keep), (11, .one (.ptr 480 0)), (46, .one .keep), (47, .one .keep), (48, .one (.data (.int .i64)))], vars := [(480, 55, [.keep, .keep])], arrs := [] }, [{ e := .x 0, j := { regs := [(2, .one .keep), (3, .one .keep), (11, .one (.ptr 480 0))], vars := [(480, 55, [.keep, .keep])], arrs := [] } }, { e := .r, j := { regs := [(10, .one (.data (.bool)))], vars := [], arrs := [] } }])) (.mk [] none .nil (.mk [] none .nil (.mk [] none (.mk [] none (.mk [] none .nil (.mk [] none (.mk [.join [{ e := .n, j := { regs := [(2, .one .keep), (3, .one .keep), (11, .one (.ptr 480 0)), (46, .one .keep), (47, .one .keep), (48, .one .keep), (106, .one (.data (.bool)))], vars := [(480, 55, [.keep, .keep])], arrs := [] } }]] none .nil .nil) .nil)) .nil) .nil))) .nil) .nil)) (.mk [] none .nil (.mk [] none (.mk [] none .nil (.mk [] none (.mk [] (some ({ regs := [(2, .one .keep), (3, .one .keep), (11, .one (.ptr 480 0)), (14, .one (.own 251)), (15, .one (.data (.int .i64)))], vars := [(480, 55, [.data (.sl (.int .i64)), .data (.int .i64)])], arrs := [(251, .arr 3 (.int .i64))] }, [{ e := .x 2, j := { regs := [(2, .one .keep), (3, .one .keep), (11, .one (.ptr 480 0)), (14, .one (.own 251))], vars := [(480, 55, [.data (.sl (.int .i64)), .data (.int .i64)])], arrs := [(251, .arr 3 (.int .i64))] } }])) .nil .nil) .nil)) (.mk [] none (.mk [] none (.mk [.fz [14]] none .nil .nil) (.mk [] none (.mk [] (some ({ regs := [(2, .one .keep), (11, .one (.ptr 480 0)), (124, .one .keep), (125, .one .keep), (126, .one (.data (.int .i64)))], vars := [(480, 55, [.data (.sl (.int .i64)), .data (.int .i64)])], arrs := [] }, [{ e := .x 4, j := { regs := [], vars := [], arrs := [] } }, { e := .r, j := { regs := [(10, .one (.data (.bool)))], vars := [], arrs := [] } }])) (.mk [] none .nil (.mk [] none .nil (.mk [] none (.mk [] none (.mk [] none .nil (.mk [] none .nil (.mk [] none (.mk [] (some ({ regs := [(2, .one .keep), (11, .one (.ptr 480 0)), (17, .one .keep), (124, .one .keep), (125, .one .keep), (126, .one .keep), (133, .one .keep), (134, .one .keep), (135, .one (.data (.int .i64)))], vars := [(480, 55, [.keep, .keep])], arrs := [] }, [{ e := .x 6, j := { regs := [(2, .one .keep), (11, .one (.ptr 480 0)), (124, .one .keep), (125, .one .keep), (126, .one .keep)], vars := [(480, 55, [.keep, .keep])], arrs := [] } }, { e := .r, j := { regs := [(10, .one (.data (.bool)))], vars := [], arrs := [] } }])) (.mk [] none .nil (.mk [] none .nil (.mk [] none (.mk [] none (.mk [] none .nil (.mk [] none .nil (.mk [] none .nil (.mk [] none (.mk [.join [{ e := .n, j := { regs := [(2, .one .keep), (11, .one (.ptr 480 0)), (17, .one .keep), (124, .one .keep), (125, .one .keep), (126, .one .keep), (133, .one .keep), (134, .one .keep), (135, .one .keep), (159, .one (.data (.bool)))], vars := [(480, 55, [.keep, .keep])], arrs := [] } }]] none .nil .nil) .nil)))) .nil) .nil))) .nil) .nil))) .nil) .nil))) .nil) .nil)) .nil))))))))
    Try.func5 rfl nmr5 rfl rfl rfl rfl types_ok ⟨ok_law01_awake, ok_keep_New, ok_keep_Src_Range, ok_keep_Mod, ok_round_Down, ok_ref01_Down, ok_round_Up, ok_ref01_Up, ok_round_Half, ok_ref01_Half, ok_round_Root, ok_ref01_Root, ok_round_RootUp, ok_ref01_RootUp, ok_keep_Src_N, ok_keep_Src_Pick, ok_round_Shares, ok_ref01_Shares, ok_keep_Ints, trivial⟩ mx (fun x => by kernel_rfl)

noncomputable def law01_RoundBetween (a : Int) (b : Int) : Option (Bool) :=
  (round_Down (wi64 a) (wi64 (1 + (wi64 b)))).bind fun r =>
  (round_Up (wi64 a) (wi64 (1 + (wi64 b)))).bind fun r2 =>
  (round_Half (wi64 a) (wi64 (1 + (wi64 b)))).bind fun r3 =>
  bif decide (wi64 (r * (wi64 (1 + (wi64 b)))) ≤ wi64 a) then (
   bif decide (wi64 a < wi64 ((wi64 (r + 1)) * (wi64 (1 + (wi64 b))))) then (
    bif decide (wi64 a ≤ wi64 (r2 * (wi64 (1 + (wi64 b))))) then (
     bif decide (wi64 ((wi64 (r2 - 1)) * (wi64 (1 + (wi64 b)))) < wi64 a) then (
      bif decide (wi64 (2 * (wi64 ((wi64 a) - (wi64 (r3 * (wi64 (1 + (wi64 b)))))))) < wi64 (1 + (wi64 b))) then (
       bif decide (wi64 (0 - (wi64 (1 + (wi64 b)))) ≤ wi64 (2 * (wi64 ((wi64 a) - (wi64 (r3 * (wi64 (1 + (wi64 b))))))))) then (
        (law01_awake).bind fun r4 =>
        some r4)
       else (
        some false))
      else (
       some false))
     else (
      some false))
    else (
     some false))
   else (
    some false))
  else (
   some false)

noncomputable def fn_law01_RoundBetween : Fun :=
  { f := 6, np := 2, nr := 1,
    ji := { regs := [(0, .one (.data (.int .i32))), (1, .one (.data (.int .u16)))], vars := [], arrs := [] },
    jo := { regs := [(0, .one (.data (.bool)))], vars := [], arrs := [] },
    tw := fun x => law01_RoundBetween x.1 x.2 }
noncomputable def cx_law01_RoundBetween : Cx := { Γ := types, ow := [], fs := [fn_round_Down, fn_round_Up, fn_round_Half, fn_law01_awake], N := 76 }
theorem ok_law01_RoundBetween : FunOk Try.prog fn_law01_RoundBetween :=
  FunOk.intro (C := cx_law01_RoundBetween) (p := .nil)
    Try.func6 rfl nmr6 rfl rfl rfl rfl types_ok ⟨ok_round_Down, ok_round_Up, ok_round_Half, ok_law01_awake, trivial⟩ mx (fun x => by kernel_rfl)

noncomputable def law01_RoundRoots (n : Int) : Option (Bool) :=
  (round_Root (wi64 (Int.tmod n 4611686018427387904))).bind fun r =>
  (round_RootUp (wi64 (Int.tmod n 4611686018427387904))).bind fun r2 =>
  bif decide (0 ≤ r) then (
   bif decide (r < 2147483648) then (
    bif decide (wi64 (r * r) ≤ wi64 (Int.tmod n 4611686018427387904)) then (
     bif decide (wi64 (Int.tmod n 4611686018427387904) < wi64 ((wi64 (r + 1)) * (wi64 (r + 1)))) then (
      bif decide (r2 = r) == decide (wi64 (r * r) = wi64 (Int.tmod n 4611686018427387904)) then (
       bif decide (wi64 (r2 - r) ≤ 1) then (
        bif decide (r ≤ r2) then (
         (law01_awake).bind fun r3 =>
         some r3)
        else (
         some false))
       else (
        some false))
      else (
       some false))
     else (
      some false))
    else (
     some false))
   else (
    some false))
  else (
   some false)

noncomputable def fn_law01_RoundRoots : Fun :=
  { f := 7, np := 1, nr := 1,
    ji := { regs := [(0, .one (.data (.int .u64)))], vars := [], arrs := [] },
    jo := { regs := [(0, .one (.data (.bool)))], vars := [], arrs := [] },
    tw := fun x => law01_RoundRoots x }
noncomputable def cx_law01_RoundRoots : Cx := { Γ := types, ow := [], fs := [fn_round_Root, fn_round_RootUp, fn_law01_awake], N := 60 }
theorem ok_law01_RoundRoots : FunOk Try.prog fn_law01_RoundRoots :=
  FunOk.intro (C := cx_law01_RoundRoots) (p := .nil)
    Try.func7 rfl nmr7 rfl rfl rfl rfl types_ok ⟨ok_round_Root, ok_round_RootUp, ok_law01_awake, trivial⟩ mx (fun x => by kernel_rfl)

noncomputable def law01_RoundShares_L0 (sum : Int) (i : Int) (d : List Int) (d2 : Int) (w : List Int) : Option ((Int × Int × List Int × Int × List Int) ⊕ (Int × List Int)) :=
  bif decide (0 < i) then (
   (keep_Src_N 50 d d2).bind fun r3 =>
   (keep_Src_Pick [0, 1, 1, 2, 5, 1000, r3.1] r3.2.1 r3.2.2).bind fun r4 =>
   gd (fits (w.length + 1) 8) <|
   gd (inB (wi64 (((w ++ [r4.1]).length : Int) - 1)) (w ++ [r4.1]).length) <|
   some (.inl (wi64 (sum + ((w ++ [r4.1]).getD ((wi64 (((w ++ [r4.1]).length : Int) - 1)).toNat) 0)), wi64 (i - 1), r4.2.1, r4.2.2, w ++ [r4.1])))
  else (
   some (.inr (sum, w)))

noncomputable def law01_RoundShares_L2 (s : Int × List Int) (r5 : List Int × Int) (v : Int) (k : Int) : Option (Int ⊕ (Unit ⊕ Bool)) :=
  bif decide (k < v) then (
   Option.bind (α := Bool) (
     gd (inB k s.2.length) <|
     gd (inB v s.2.length) <|
     bif decide (s.2.getD k.toNat 0 = s.2.getD v.toNat 0) then (
      gd (inB k r5.1.length) <|
      gd (inB v r5.1.length) <|
      bif !decide (r5.1.getD k.toNat 0 = r5.1.getD v.toNat 0) then (
       gd (inB k r5.1.length) <|
       gd (inB v r5.1.length) <|
       some (!decide (r5.1.getD k.toNat 0 = wi64 ((r5.1.getD v.toNat 0) + 1))))
      else (
       some false))
     else (
      some false)) fun s4 =>
   bif s4 then (
    some (.inr (.inr false)))
   else (
    some (.inl (wi64 (k + 1)))))
  else (
   some (.inr (.inl ())))

noncomputable def law01_RoundShares_L1 (total : Int) (s : Int × List Int) (r5 : List Int × Int) (all : Int) (v : Int) : Option ((Int × Int) ⊕ (Int ⊕ Bool)) :=
  bif decide (v < (r5.1.length : Int)) then (
   gd (inB v r5.1.length) <|
   gd (inB v s.2.length) <|
   Option.bind (α := Bool) (
     gd (inB v r5.1.length) <|
     bif decide (wi64 ((wi64 ((wi64 ((wi64 total) * (s.2.getD v.toNat 0))) + s.1)) - 1) < wi64 ((r5.1.getD v.toNat 0) * s.1)) then (
      some true)
     else (
      gd (inB v r5.1.length) <|
      bif decide (wi64 ((wi64 ((r5.1.getD v.toNat 0) + 1)) * s.1) ≤ wi64 ((wi64 total) * (s.2.getD v.toNat 0))) then (
       some true)
      else (
       gd (inB v s.2.length) <|
       bif decide (s.2.getD v.toNat 0 = 0) then (
        gd (inB v r5.1.length) <|
        some (!decide (r5.1.getD v.toNat 0 = 0)))
       else (
        some false)))) fun s3 =>
   bif s3 then (
    some (.inr (.inr false)))
   else (
    (iter (fun x2 => law01_RoundShares_L2 s r5 v x2) 0).bind fun s5 =>
    s5.elim (fun s6 =>
     some (.inl (wi64 (all + (r5.1.getD v.toNat 0)), wi64 (v + 1))))
    (fun s7 =>
     some (.inr (.inr s7)))))
  else (
   some (.inr (.inl all)))

noncomputable def law01_RoundShares (l : List Int) (total : Int) : Option (Bool) :=
  (keep_New l).bind fun r =>
  (keep_Src_Range 1 10 r.1 r.2).bind fun r2 =>
  (iter (fun x => law01_RoundShares_L0 x.1 x.2.1 x.2.2.1 x.2.2.2.1 x.2.2.2.2) (0, r2.1, r2.2.1, r2.2.2, [])).bind fun s =>
  (round_Shares (wi64 total) s.2).bind fun r5 =>
  bif decide (s.1 = 0) then (
   bif decide (r5.2 = 9) then (
    (law01_awake).bind fun r6 =>
    some r6)
   else (
    some false))
  else (
   Option.bind (α := Bool) (
     bif !decide (r5.2 = 0) then (
      some true)
     else (
      some (!decide ((r5.1.length : Int) = (s.2.length : Int))))) fun s2 =>
   bif s2 then (
    some false)
   else (
    (iter (fun x3 => law01_RoundShares_L1 total s r5 x3.1 x3.2) (0, 0)).bind fun s8 =>
    s8.elim (fun s9 =>
     bif decide (s9 = wi64 total) then (
      (law01_awake).bind fun r7 =>
      some r7)
     else (
      some false))
    (fun s10 =>
     some s10)))

noncomputable def fn_law01_RoundShares : Fun :=
  { f := 8, np := 2, nr := 1,
    ji := { regs := [(0, .one (.data (.sl (.int .i64)))), (1, .one (.data (.int .u32)))], vars := [], arrs := [] },
    jo := { regs := [(0, .one (.data (.bool)))], vars := [], arrs := [] },
    tw := fun x => law01_RoundShares x.1 x.2 }
noncomputable def cx_law01_RoundShares : Cx := { Γ := types, ow := [], fs := [fn_keep_New, fn_keep_Src_Range, fn_keep_Src_N, fn_keep_Src_Pick, fn_round_Shares, fn_law01_awake], N := 161 }
theorem ok_law01_RoundShares : FunOk Try.prog fn_law01_RoundShares :=
  FunOk.intro (C := cx_law01_RoundShares) (p := (.mk [] none .nil (.mk [] none .nil (.mk [] none .nil (.mk [] none .nil (.mk [] none (.mk [] none .nil (.mk [] none (.mk [] (some ({ regs := [(1, .one .keep), (5, .one (.ptr 272 0)), (6, .one (.own 123)), (7, .one (.data (.int .i64))), (8, .one (.data (.int .i64)))], vars := [(272, 55, [.data (.sl (.int .i64)), .data (.int .i64)])], arrs := [(123, .arr 3 (.int .i64))] }, [{ e := .x 0, j := { regs := [(1, .one .keep), (6, .one (.own 123)), (7, .one (.data (.int .i64)))], vars := [], arrs := [(123, .arr 3 (.int .i64))] } }])) .nil .nil) .nil)) (.mk [] none (.mk [.fz [6]] none .nil .nil) (.mk [] none .nil (.mk [] none (.mk [] none (.mk [.join [{ e := .n, j := { regs := [(1, .one .keep), (6, .one .keep), (7, .one .keep), (9, .one .keep), (61, .one (.data (.bool)))], vars := [], arrs := [] } }]] none .nil .nil) .nil) (.mk [] none .nil (.mk [] none (.mk [] none .nil (.mk [] none (.mk [] (some ({ regs := [(1, .one .keep), (6, .one .keep), (7, .one .keep), (9, .one .keep), (11, .one (.data (.int .i64))), (63, .one .keep), (64, .one (.data (.int .i64)))], vars := [], arrs := [] }, [{ e := .x 2, j := { regs := [(1, .one .keep), (11, .one (.data (.int .i64)))], vars := [], arrs := [] } }, { e := .r, j := { regs := [(4, .one (.data (.bool)))], vars := [], arrs := [] } }])) (.mk [] none .nil (.mk [] none .nil (.mk [] none (.mk [] none (.mk [] none .nil (.mk [] none .nil (.mk [] none .nil (.mk [] none (.mk [] none (.mk [.join [{ e := .n, j := { regs := [(1, .one .keep), (6, .one .keep), (7, .one .keep), (9, .one .keep), (11, .one .keep), (12, .one .keep), (63, .one .keep), (64, .one .keep), (115, .one (.data (.bool)))], vars := [], arrs := [] } }]] none .nil .nil) .nil) (.mk [] none .nil (.mk [] none (.mk [] (some ({ regs := [(1, .one .keep), (6, .one .keep), (7, .one .keep), (9, .one .keep), (11, .one .keep), (12, .one .keep), (14, .one (.data (.int .i64))), (63, .one .keep), (64, .one .keep)], vars := [], arrs := [] }, [{ e := .x 4, j := { regs := [(1, .one .keep), (6, .one .keep), (7, .one .keep), (9, .one .keep), (11, .one .keep), (63, .one .keep), (64, .one .keep)], vars := [], arrs := [] } }, { e := .r, j := { regs := [(4, .one (.data (.bool)))], vars := [], arrs := [] } }])) (.mk [] none .nil (.mk [] none (.mk [] none (.mk [] none (.mk [.join [{ e := .n, j := { regs := [(1, .one .keep), (6, .one .keep), (7, .one .keep), (9, .one .keep), (11, .one .keep), (12, .one .keep), (14, .one .keep), (63, .one .keep), (64, .one .keep), (152, .one (.data (.bool)))], vars := [], arrs := [] } }]] none .nil .nil) .nil) .nil) .nil)) .nil) .nil)))))) .nil) .nil))) .nil) .nil)) .nil)))))))))))
    Try.func8 rfl nmr8 rfl rfl rfl rfl types_ok ⟨ok_keep_New, ok_keep_Src_Range, ok_keep_Src_N, ok_keep_Src_Pick, ok_round_Shares, ok_law01_awake, trivial⟩ mx (fun x => by kernel_rfl)

noncomputable def law01_RoundOrder_L0 (x : Int) (i : Int) (d : List Int) (d2 : Int) (w : List Int) : Option ((Int × Int × List Int × Int × List Int) ⊕ (List Int)) :=
  bif decide (0 < i) then (
   (keep_Src_Range 1 40 d d2).bind fun r3 =>
   gd (fits (w.length + 1) 8) <|
   some (.inl (wi64 (x + r3.1), wi64 (i - 1), r3.2.1, r3.2.2, w ++ [wi64 (x + r3.1)])))
  else (
   some (.inr w))

noncomputable def law01_RoundOrder_L1 (turn : Int) (s : List Int) (r4 : List Int × Int) (r5 : List Int × Int) (v : Int) : Option (Int ⊕ (Unit ⊕ Bool)) :=
  bif decide (v < (s.length : Int)) then (
   gd (!decide ((s.length : Int) = 0)) <|
   Option.bind (α := Bool) (
     gd (inB v r4.1.length) <|
     gd (inB (Int.tmod (wi64 ((wi64 (v + (s.length : Int))) - (Int.tmod (wi64 turn) (s.length : Int)))) (s.length : Int)) r5.1.length) <|
     bif !decide (r4.1.getD v.toNat 0 = r5.1.getD (Int.tmod (wi64 ((wi64 (v + (s.length : Int))) - (Int.tmod (wi64 turn) (s.length : Int)))) (s.length : Int)).toNat 0) then (
      gd (inB v r4.1.length) <|
      gd (inB (Int.tmod (wi64 ((wi64 (v + (s.length : Int))) - (Int.tmod (wi64 turn) (s.length : Int)))) (s.length : Int)) r5.1.length) <|
      bif !decide (r4.1.getD v.toNat 0 = wi64 ((r5.1.getD (Int.tmod (wi64 ((wi64 (v + (s.length : Int))) - (Int.tmod (wi64 turn) (s.length : Int)))) (s.length : Int)).toNat 0) + 1)) then (
       gd (inB v r4.1.length) <|
       gd (inB (Int.tmod (wi64 ((wi64 (v + (s.length : Int))) - (Int.tmod (wi64 turn) (s.length : Int)))) (s.length : Int)) r5.1.length) <|
       some (!decide (r4.1.getD v.toNat 0 = wi64 ((r5.1.getD (Int.tmod (wi64 ((wi64 (v + (s.length : Int))) - (Int.tmod (wi64 turn) (s.length : Int)))) (s.length : Int)).toNat 0) - 1))))
      else (
       some false))
     else (
      some false)) fun s3 =>
   bif s3 then (
    some (.inr (.inr false)))
   else (
    some (.inl (wi64 (v + 1)))))
  else (
   some (.inr (.inl ())))

noncomputable def law01_RoundOrder (l : List Int) (total : Int) (turn : Int) : Option (Bool) :=
  (keep_New l).bind fun r =>
  (keep_Src_Range 1 8 r.1 r.2).bind fun r2 =>
  (iter (fun x2 => law01_RoundOrder_L0 x2.1 x2.2.1 x2.2.2.1 x2.2.2.2.1 x2.2.2.2.2) (0, r2.1, r2.2.1, r2.2.2, [])).bind fun s =>
  gd (!decide ((s.length : Int) = 0)) <|
  gd (cutG (some (.i64, Int.tmod (wi64 turn) (s.length : Int))) none s.length) <|
  gd (fits (0 + (s.drop (Int.tmod (wi64 turn) (s.length : Int)).toNat).length) 8) <|
  gd (cutG none (some (.i64, Int.tmod (wi64 turn) (s.length : Int))) s.length) <|
  gd (fits (([] ++ (s.drop (Int.tmod (wi64 turn) (s.length : Int)).toNat)).length + (s.take (Int.tmod (wi64 turn) (s.length : Int)).toNat).length) 8) <|
  (round_Shares (wi64 total) s).bind fun r4 =>
  (round_Shares (wi64 total) (([] ++ (s.drop (Int.tmod (wi64 turn) (s.length : Int)).toNat)) ++ (s.take (Int.tmod (wi64 turn) (s.length : Int)).toNat))).bind fun r5 =>
  Option.bind (α := Bool) (
    bif !decide (r4.2 = 0) then (
     some true)
    else (
     bif !decide (r5.2 = 0) then (
      some true)
     else (
      bif !decide ((r4.1.length : Int) = (s.length : Int)) then (
       some true)
      else (
       some (!decide ((r5.1.length : Int) = (s.length : Int))))))) fun s2 =>
  bif s2 then (
   some false)
  else (
   (iter (fun x3 => law01_RoundOrder_L1 turn s r4 r5 x3) 0).bind fun s4 =>
   s4.elim (fun s5 =>
    (law01_awake).bind fun r6 =>
    some r6)
   (fun s6 =>
    some s6))

noncomputable def fn_law01_RoundOrder : Fun :=
  { f := 9, np := 3, nr := 1,
    ji := { regs := [(0, .one (.data (.sl (.int .i64)))), (1, .one (.data (.int .u32))), (2, .one (.data (.int .u8)))], vars := [], arrs := [] },
    jo := { regs := [(0, .one (.data (.bool)))], vars := [], arrs := [] },
    tw := fun x => law01_RoundOrder x.1 x.2.1 x.2.2 }
noncomputable def cx_law01_RoundOrder : Cx := { Γ := types, ow := [40], fs := [fn_keep_New, fn_keep_Src_Range, fn_round_Shares, fn_law01_awake], N := 132 }
theorem ok_law01_RoundOrder : FunOk Try.prog fn_law01_RoundOrder :=
  FunOk.intro (C := cx_law01_RoundOrder) (p := (.mk [] none .nil (.mk [] none .nil (.mk [] none .nil (.mk [] none .nil (.mk [] none (.mk [] none .nil (.mk [] none (.mk [] (some ({ regs := [(1, .one .keep), (2, .one .keep), (7, .one (.ptr 336 0)), (8, .one (.own 155)), (9, .one (.data (.int .i64))), (10, .one (.data (.int .i64)))], vars := [(336, 55, [.data (.sl (.int .i64)), .data (.int .i64)])], arrs := [(155, .arr 3 (.int .i64))] }, [{ e := .x 0, j := { regs := [(1, .one .keep), (2, .one .keep), (8, .one (.own 155))], vars := [], arrs := [(155, .arr 3 (.int .i64))] } }])) .nil .nil) .nil)) (.mk [] none .nil (.mk [] none (.mk [.fz [8]] none .nil .nil) (.mk [] none .nil (.mk [] none (.mk [.fz [12]] none .nil .nil) (.mk [] none (.mk [] none (.mk [.join [{ e := .n, j := { regs := [(8, .one .keep), (11, .one .keep), (13, .one .keep), (15, .one .keep), (82, .one (.data (.bool)))], vars := [], arrs := [] } }]] none .nil .nil) .nil) (.mk [] none (.mk [] none .nil (.mk [] none (.mk [] (some ({ regs := [(8, .one .keep), (11, .one .keep), (13, .one .keep), (15, .one .keep), (84, .one .keep), (85, .one (.data (.int .i64)))], vars := [], arrs := [] }, [{ e := .x 2, j := { regs := [], vars := [], arrs := [] } }, { e := .r, j := { regs := [(6, .one (.data (.bool)))], vars := [], arrs := [] } }])) (.mk [] none .nil (.mk [] none .nil (.mk [] none (.mk [] none (.mk [] none .nil (.mk [] none .nil (.mk [] none (.mk [.join [{ e := .n, j := { regs := [(8, .one .keep), (11, .one .keep), (13, .one .keep), (15, .one .keep), (84, .one .keep), (85, .one .keep), (129, .one (.data (.bool)))], vars := [], arrs := [] } }]] none .nil .nil) .nil))) .nil) .nil))) .nil) .nil)) .nil))))))))))))
    Try.func9 rfl nmr9 rfl rfl rfl rfl types_ok ⟨ok_keep_New, ok_keep_Src_Range, ok_round_Shares, ok_law01_awake, trivial⟩ mx (fun x => by kernel_rfl)

noncomputable def law01_RoundTurns (a : Int) (b : Int) (k : Int) : Option (Bool) :=
  (round_Down (wi64 (0 - (wi64 a))) (wi64 (1 + (wi64 b)))).bind fun r =>
  (round_Up (wi64 a) (wi64 (1 + (wi64 b)))).bind fun r2 =>
  bif decide (r = wi64 (0 - r2)) then (
   (round_Down (wi64 ((wi64 a) + (wi64 ((wi64 k) * (wi64 (1 + (wi64 b))))))) (wi64 (1 + (wi64 b)))).bind fun r3 =>
   (round_Down (wi64 a) (wi64 (1 + (wi64 b)))).bind fun r4 =>
   bif decide (r3 = wi64 (r4 + (wi64 k))) then (
    (round_Up (wi64 ((wi64 a) + (wi64 ((wi64 k) * (wi64 (1 + (wi64 b))))))) (wi64 (1 + (wi64 b)))).bind fun r5 =>
    (round_Up (wi64 a) (wi64 (1 + (wi64 b)))).bind fun r6 =>
    bif decide (r5 = wi64 (r6 + (wi64 k))) then (
     (round_Half (wi64 ((wi64 a) + (wi64 ((wi64 k) * (wi64 (1 + (wi64 b))))))) (wi64 (1 + (wi64 b)))).bind fun r7 =>
     (round_Half (wi64 a) (wi64 (1 + (wi64 b)))).bind fun r8 =>
     bif decide (r7 = wi64 (r8 + (wi64 k))) then (
      (law01_awake).bind fun r9 =>
      some r9)
     else (
      some false))
    else (
     some false))
   else (
    some false))
  else (
   some false)

noncomputable def fn_law01_RoundTurns : Fun :=
  { f := 10, np := 3, nr := 1,
    ji := { regs := [(0, .one (.data (.int .i32))), (1, .one (.data (.int .u16))), (2, .one (.data (.int .i16)))], vars := [], arrs := [] },
    jo := { regs := [(0, .one (.data (.bool)))], vars := [], arrs := [] },
    tw := fun x => law01_RoundTurns x.1 x.2.1 x.2.2 }
noncomputable def cx_law01_RoundTurns : Cx := { Γ := types, ow := [], fs := [fn_round_Down, fn_round_Up, fn_round_Half, fn_law01_awake], N := 74 }
theorem ok_law01_RoundTurns : FunOk Try.prog fn_law01_RoundTurns :=
  FunOk.intro (C := cx_law01_RoundTurns) (p := .nil)
    Try.func10 rfl nmr10 rfl rfl rfl rfl types_ok ⟨ok_round_Down, ok_round_Up, ok_round_Half, ok_law01_awake, trivial⟩ mx (fun x => by kernel_rfl)

end Go.Proofs.Ytdmfhnpibllfeaa
