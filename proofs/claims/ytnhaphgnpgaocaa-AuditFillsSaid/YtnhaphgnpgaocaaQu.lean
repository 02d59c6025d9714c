/- Functions, evaluated. No condition. -/
import Derived.Test.YtnhaphgnpgaocaaProg
import Derived.Test.YtnhaphgnpgaocaaSqY
namespace Go.Proofs.Ytnhaphgnpgaocaa
open Go Go.Sq
def ti3 : TI := { t := 3, desc := .int .i64, size := 1, bytes := 8, zero := .int .i64 0, τ := .int .i64, eq := false }
theorem tk3 : ti3.ok Try.prog := ⟨Try.underlying3, by kernel_rfl, fun h => by cases h⟩
def ti4 : TI := { t := 4, desc := .bool, size := 1, bytes := 1, zero := .bool false, τ := .bool, eq := false }
theorem tk4 : ti4.ok Try.prog := ⟨Try.underlying4, by kernel_rfl, fun h => by cases h⟩
def ti5 : TI := { t := 5, desc := .int .u8, size := 1, bytes := 1, zero := .int .u8 0, τ := .int .u8, eq := false }
theorem tk5 : ti5.ok Try.prog := ⟨Try.underlying5, by kernel_rfl, fun h => by cases h⟩
def ti9 : TI := { t := 9, desc := .string, size := 1, bytes := 16, zero := .string ⟨#[]⟩, τ := .str, eq := false }
theorem tk9 : ti9.ok Try.prog := ⟨Try.underlying9, by kernel_rfl, fun h => by cases h⟩
def ti22 : TI := { t := 22, desc := .slice 3, size := 1, bytes := 24, zero := .slice none 0 0, τ := .sl (.int .i64), eq := false }
theorem tk22 : ti22.ok Try.prog := ⟨Try.underlying22, by kernel_rfl, fun h => by cases h⟩
def ti27 : TI := { t := 27, desc := .slice 9, size := 1, bytes := 24, zero := .slice none 0 0, τ := .sl (.str), eq := false }
theorem tk27 : ti27.ok Try.prog := ⟨Try.underlying27, by kernel_rfl, fun h => by cases h⟩
def ti28 : TI := { t := 28, desc := .slice 60, size := 1, bytes := 24, zero := .slice none 0 0, τ := .sl (.pair (.str) (.pair (.int .i64) (.pair (.int .i64) (.pair (.int .i64) (.pair (.int .i64) (.pair (.int .i64) (.sl (.pair (.int .i64) (.pair (.int .i64) (.int .i64)))))))))), eq := false }
theorem tk28 : ti28.ok Try.prog := ⟨Try.underlying28, by kernel_rfl, fun h => by cases h⟩
def ti29 : TI := { t := 29, desc := .slice 71, size := 1, bytes := 24, zero := .slice none 0 0, τ := .sl (.pair (.str) (.pair (.int .i64) (.int .i64))), eq := false }
theorem tk29 : ti29.ok Try.prog := ⟨Try.underlying29, by kernel_rfl, fun h => by cases h⟩
def ti30 : TI := { t := 30, desc := .slice 73, size := 1, bytes := 24, zero := .slice none 0 0, τ := .sl (.pair (.str) (.pair (.int .i64) (.pair (.int .i64) (.pair (.int .i64) (.int .i64))))), eq := false }
theorem tk30 : ti30.ok Try.prog := ⟨Try.underlying30, by kernel_rfl, fun h => by cases h⟩
def ti32 : TI := { t := 32, desc := .struct #[{ name := "Nodes", type := 27, offset := 0, embedded := false, tag := "", pkgPath := "", byteOffset := 0 }, { name := "Segments", type := 28, offset := 1, embedded := false, tag := "", pkgPath := "", byteOffset := 24 }, { name := "Ports", type := 29, offset := 2, embedded := false, tag := "", pkgPath := "", byteOffset := 48 }, { name := "Stations", type := 30, offset := 3, embedded := false, tag := "", pkgPath := "", byteOffset := 72 }, { name := "Vapour", type := 3, offset := 4, embedded := false, tag := "", pkgPath := "", byteOffset := 96 }, { name := "Settle", type := 3, offset := 5, embedded := false, tag := "", pkgPath := "", byteOffset := 104 }], size := 6, bytes := 112, zero := .agg #[.slice none 0 0, .slice none 0 0, .slice none 0 0, .slice none 0 0, .int .i64 0, .int .i64 0], τ := .pair (.sl (.str)) (.pair (.sl (.pair (.str) (.pair (.int .i64) (.pair (.int .i64) (.pair (.int .i64) (.pair (.int .i64) (.pair (.int .i64) (.sl (.pair (.int .i64) (.pair (.int .i64) (.int .i64))))))))))) (.pair (.sl (.pair (.str) (.pair (.int .i64) (.int .i64)))) (.pair (.sl (.pair (.str) (.pair (.int .i64) (.pair (.int .i64) (.pair (.int .i64) (.int .i64)))))) (.pair (.int .i64) (.int .i64))))), eq := true }
theorem tk32 : ti32.ok Try.prog := ⟨Try.underlying32, by kernel_rfl, fun _ => ⟨Try.eqGuardType32, Try.stoodInHeld32⟩⟩
def ti39 : TI := { t := 39, desc := .slice 44, size := 1, bytes := 24, zero := .slice none 0 0, τ := .sl (.sl (.pair (.int .i64) (.int .i64))), eq := false }
theorem tk39 : ti39.ok Try.prog := ⟨Try.underlying39, by kernel_rfl, fun h => by cases h⟩
def ti44 : TI := { t := 44, desc := .slice 46, size := 1, bytes := 24, zero := .slice none 0 0, τ := .sl (.pair (.int .i64) (.int .i64)), eq := false }
theorem tk44 : ti44.ok Try.prog := ⟨Try.underlying44, by kernel_rfl, fun h => by cases h⟩
def ti46 : TI := { t := 46, desc := .struct #[{ name := "Batch", type := 3, offset := 0, embedded := false, tag := "", pkgPath := "", byteOffset := 0 }, { name := "Volume", type := 3, offset := 1, embedded := false, tag := "", pkgPath := "", byteOffset := 8 }], size := 2, bytes := 16, zero := .agg #[.int .i64 0, .int .i64 0], τ := .pair (.int .i64) (.int .i64), eq := true }
theorem tk46 : ti46.ok Try.prog := ⟨Try.underlying46, by kernel_rfl, fun _ => ⟨Try.eqGuardType46, Try.stoodInHeld46⟩⟩
def ti58 : TI := { t := 58, desc := .slice 94, size := 1, bytes := 24, zero := .slice none 0 0, τ := .sl (.pair (.int .i64) (.pair (.int .i64) (.int .i64))), eq := false }
theorem tk58 : ti58.ok Try.prog := ⟨Try.underlying58, by kernel_rfl, fun h => by cases h⟩
def ti60 : TI := { t := 60, desc := .struct #[{ name := "Name", type := 9, offset := 0, embedded := false, tag := "", pkgPath := "", byteOffset := 0 }, { name := "From", type := 3, offset := 1, embedded := false, tag := "", pkgPath := "", byteOffset := 16 }, { name := "To", type := 3, offset := 2, embedded := false, tag := "", pkgPath := "", byteOffset := 24 }, { name := "Capacity", type := 3, offset := 3, embedded := false, tag := "", pkgPath := "", byteOffset := 32 }, { name := "Resist", type := 3, offset := 4, embedded := false, tag := "", pkgPath := "", byteOffset := 40 }, { name := "Wave", type := 3, offset := 5, embedded := false, tag := "", pkgPath := "", byteOffset := 48 }, { name := "Points", type := 58, offset := 6, embedded := false, tag := "", pkgPath := "", byteOffset := 56 }], size := 7, bytes := 80, zero := .agg #[.string ⟨#[]⟩, .int .i64 0, .int .i64 0, .int .i64 0, .int .i64 0, .int .i64 0, .slice none 0 0], τ := .pair (.str) (.pair (.int .i64) (.pair (.int .i64) (.pair (.int .i64) (.pair (.int .i64) (.pair (.int .i64) (.sl (.pair (.int .i64) (.pair (.int .i64) (.int .i64))))))))), eq := true }
theorem tk60 : ti60.ok Try.prog := ⟨Try.underlying60, by kernel_rfl, fun _ => ⟨Try.eqGuardType60, Try.stoodInHeld60⟩⟩
def ti66 : TI := { t := 66, desc := .struct #[{ name := "L", type := 22, offset := 0, embedded := false, tag := "", pkgPath := "", byteOffset := 0 }, { name := "At", type := 3, offset := 1, embedded := false, tag := "", pkgPath := "", byteOffset := 24 }], size := 2, bytes := 32, zero := .agg #[.slice none 0 0, .int .i64 0], τ := .pair (.sl (.int .i64)) (.int .i64), eq := true }
theorem tk66 : ti66.ok Try.prog := ⟨Try.underlying66, by kernel_rfl, fun _ => ⟨Try.eqGuardType66, Try.stoodInHeld66⟩⟩
def ti71 : TI := { t := 71, desc := .struct #[{ name := "Name", type := 9, offset := 0, embedded := false, tag := "", pkgPath := "", byteOffset := 0 }, { name := "Node", type := 3, offset := 1, embedded := false, tag := "", pkgPath := "", byteOffset := 16 }, { name := "Pressure", type := 3, offset := 2, embedded := false, tag := "", pkgPath := "", byteOffset := 24 }], size := 3, bytes := 32, zero := .agg #[.string ⟨#[]⟩, .int .i64 0, .int .i64 0], τ := .pair (.str) (.pair (.int .i64) (.int .i64)), eq := true }
theorem tk71 : ti71.ok Try.prog := ⟨Try.underlying71, by kernel_rfl, fun _ => ⟨Try.eqGuardType71, Try.stoodInHeld71⟩⟩
def ti73 : TI := { t := 73, desc := .struct #[{ name := "Name", type := 9, offset := 0, embedded := false, tag := "", pkgPath := "", byteOffset := 0 }, { name := "Node", type := 3, offset := 1, embedded := false, tag := "", pkgPath := "", byteOffset := 16 }, { name := "Head", type := 3, offset := 2, embedded := false, tag := "", pkgPath := "", byteOffset := 24 }, { name := "Fall", type := 3, offset := 3, embedded := false, tag := "", pkgPath := "", byteOffset := 32 }, { name := "Suction", type := 3, offset := 4, embedded := false, tag := "", pkgPath := "", byteOffset := 40 }], size := 5, bytes := 48, zero := .agg #[.string ⟨#[]⟩, .int .i64 0, .int .i64 0, .int .i64 0, .int .i64 0], τ := .pair (.str) (.pair (.int .i64) (.pair (.int .i64) (.pair (.int .i64) (.int .i64)))), eq := true }
theorem tk73 : ti73.ok Try.prog := ⟨Try.underlying73, by kernel_rfl, fun _ => ⟨Try.eqGuardType73, Try.stoodInHeld73⟩⟩
def ti83 : TI := { t := 83, desc := .map 3 3, size := 1, bytes := 8, zero := .map none, τ := .map (.int .i64) (.int .i64), eq := false }
theorem tk83 : ti83.ok Try.prog := ⟨Try.underlying83, by kernel_rfl, fun h => by cases h⟩
def ti84 : TI := { t := 84, desc := .struct #[{ name := "fills", type := 39, offset := 0, embedded := false, tag := "", pkgPath := "batchline/audit", byteOffset := 0 }, { name := "sign", type := 3, offset := 1, embedded := false, tag := "", pkgPath := "batchline/audit", byteOffset := 24 }], size := 2, bytes := 32, zero := .agg #[.slice none 0 0, .int .i64 0], τ := .pair (.sl (.sl (.pair (.int .i64) (.int .i64)))) (.int .i64), eq := true }
theorem tk84 : ti84.ok Try.prog := ⟨Try.underlying84, by kernel_rfl, fun _ => ⟨Try.eqGuardType84, Try.stoodInHeld84⟩⟩
def ti85 : TI := { t := 85, desc := .slice 84, size := 1, bytes := 24, zero := .slice none 0 0, τ := .sl (.pair (.sl (.sl (.pair (.int .i64) (.int .i64)))) (.int .i64)), eq := false }
theorem tk85 : ti85.ok Try.prog := ⟨Try.underlying85, by kernel_rfl, fun h => by cases h⟩
def ti92 : TI := { t := 92, desc := .slice 5, size := 1, bytes := 24, zero := .slice none 0 0, τ := .sl (.int .u8), eq := false }
theorem tk92 : ti92.ok Try.prog := ⟨Try.underlying92, by kernel_rfl, fun h => by cases h⟩
def ti94 : TI := { t := 94, desc := .struct #[{ name := "At", type := 3, offset := 0, embedded := false, tag := "", pkgPath := "", byteOffset := 0 }, { name := "Height", type := 3, offset := 1, embedded := false, tag := "", pkgPath := "", byteOffset := 8 }, { name := "Limit", type := 3, offset := 2, embedded := false, tag := "", pkgPath := "", byteOffset := 16 }], size := 3, bytes := 24, zero := .agg #[.int .i64 0, .int .i64 0, .int .i64 0], τ := .pair (.int .i64) (.pair (.int .i64) (.int .i64)), eq := true }
theorem tk94 : ti94.ok Try.prog := ⟨Try.underlying94, by kernel_rfl, fun _ => ⟨Try.eqGuardType94, Try.stoodInHeld94⟩⟩
def types : List TI := [ti3, ti4, ti5, ti9, ti22, ti27, ti28, ti29, ti30, ti32, ti39, ti44, ti46, ti58, ti60, ti66, ti71, ti73, ti83, ti84, ti85, ti92, ti94]
theorem types_ok : Tys Try.prog types := ⟨tk3, tk4, tk5, tk9, tk22, tk27, tk28, tk29, tk30, tk32, tk39, tk44, tk46, tk58, tk60, tk66, tk71, tk73, tk83, tk84, tk85, tk92, tk94, trivial⟩
theorem mx : Try.prog.follows .mixedOrders = true := by kernel_rfl
theorem nmr6 : (Try.f6.name == "runtime.NumGoroutine") = false := by kernel_rfl
theorem nmr56 : (Try.f56.name == "runtime.NumGoroutine") = false := by kernel_rfl
theorem nmr57 : (Try.f57.name == "runtime.NumGoroutine") = false := by kernel_rfl
theorem nmr43 : (Try.f43.name == "runtime.NumGoroutine") = false := by kernel_rfl
theorem nmr41 : (Try.f41.name == "runtime.NumGoroutine") = false := by kernel_rfl
theorem nmr15 : (Try.f15.name == "runtime.NumGoroutine") = false := by kernel_rfl
theorem nmr59 : (Try.f59.name == "runtime.NumGoroutine") = false := by kernel_rfl
theorem nmr62 : (Try.f62.name == "runtime.NumGoroutine") = false := by kernel_rfl
theorem nmr58 : (Try.f58.name == "runtime.NumGoroutine") = false := by kernel_rfl
theorem nmr44 : (Try.f44.name == "runtime.NumGoroutine") = false := by kernel_rfl
theorem nmr45 : (Try.f45.name == "runtime.NumGoroutine") = false := by kernel_rfl
theorem nmr19 : (Try.f19.name == "runtime.NumGoroutine") = false := by kernel_rfl
theorem nmr7 : (Try.f7.name == "runtime.NumGoroutine") = false := by kernel_rfl
theorem nmr8 : (Try.f8.name == "runtime.NumGoroutine") = false := by kernel_rfl
theorem nmr47 : (Try.f47.name == "runtime.NumGoroutine") = false := by kernel_rfl
theorem nmr46 : (Try.f46.name == "runtime.NumGoroutine") = false := by kernel_rfl
theorem nmr20 : (Try.f20.name == "runtime.NumGoroutine") = false := by kernel_rfl
theorem nmr17 : (Try.f17.name == "runtime.NumGoroutine") = false := by kernel_rfl
theorem nmr16 : (Try.f16.name == "runtime.NumGoroutine") = false := by kernel_rfl
theorem nmr40 : (Try.f40.name == "runtime.NumGoroutine") = false := by kernel_rfl
theorem nmr42 : (Try.f42.name == "runtime.NumGoroutine") = false := by kernel_rfl
theorem nmr55 : (Try.f55.name == "runtime.NumGoroutine") = false := by kernel_rfl
theorem nmr36 : (Try.f36.name == "runtime.NumGoroutine") = false := by kernel_rfl
theorem nmr54 : (Try.f54.name == "runtime.NumGoroutine") = false := by kernel_rfl
theorem nmr39 : (Try.f39.name == "runtime.NumGoroutine") = false := by kernel_rfl
theorem nmr18 : (Try.f18.name == "runtime.NumGoroutine") = false := by kernel_rfl
theorem nmr14 : (Try.f14.name == "runtime.NumGoroutine") = false := by kernel_rfl
theorem nmr4 : (Try.f4.name == "runtime.NumGoroutine") = false := by kernel_rfl
theorem nmr27 : (Try.f27.name == "runtime.NumGoroutine") = false := by kernel_rfl
theorem nmr28 : (Try.f28.name == "runtime.NumGoroutine") = false := by kernel_rfl
theorem nmr29 : (Try.f29.name == "runtime.NumGoroutine") = false := by kernel_rfl
theorem nmr9 : (Try.f9.name == "runtime.NumGoroutine") = false := by kernel_rfl
theorem nmr12 : (Try.f12.name == "runtime.NumGoroutine") = false := by kernel_rfl
theorem nmr21 : (Try.f21.name == "runtime.NumGoroutine") = false := by kernel_rfl
theorem nmr25 : (Try.f25.name == "runtime.NumGoroutine") = false := by kernel_rfl
theorem nmr48 : (Try.f48.name == "runtime.NumGoroutine") = false := by kernel_rfl
theorem nmr22 : (Try.f22.name == "runtime.NumGoroutine") = false := by kernel_rfl
theorem nmr49 : (Try.f49.name == "runtime.NumGoroutine") = false := by kernel_rfl
theorem nmr23 : (Try.f23.name == "runtime.NumGoroutine") = false := by kernel_rfl
theorem nmr24 : (Try.f24.name == "runtime.NumGoroutine") = false := by kernel_rfl
theorem nmr26 : (Try.f26.name == "runtime.NumGoroutine") = false := by kernel_rfl
theorem nmr5 : (Try.f5.name == "runtime.NumGoroutine") = false := by kernel_rfl

noncomputable def second_Few (l : List Int) : Option (Bool) :=
  some (decide ((l.length : Int) ≤ 400))

noncomputable def fn_second_Few : Fun :=
  { f := 6, np := 1, nr := 1,
    ji := { regs := [(0, .one (.data (.sl (.int .i64))))], vars := [], arrs := [] },
    jo := { regs := [(0, .one (.data (.bool)))], vars := [], arrs := [] },
    tw := fun x => second_Few x }
noncomputable def cx_second_Few : Cx := { Γ := types, ow := [], fs := [], N := 6 }
theorem ok_second_Few : FunOk Try.prog fn_second_Few :=
  FunOk.intro (C := cx_second_Few) (p := .nil)
    Try.func6 rfl nmr6 rfl rfl rfl rfl types_ok ⟨trivial, trivial⟩ mx (fun x => by kernel_rfl)

noncomputable def piece_litre (p : Int × Int) : Option (Bool) :=
  bif decide (0 ≤ p.1) then (
   bif decide (p.1 < 1000) then (
    bif decide (0 ≤ p.2) then (
     some (decide (p.2 ≤ 1000000)))
    else (
     some false))
   else (
    some false))
  else (
   some false)

noncomputable def fn_piece_litre : Fun :=
  { f := 56, np := 1, nr := 1,
    ji := { regs := [(0, .one (.data (.pair (.int .i64) (.int .i64))))], vars := [], arrs := [] },
    jo := { regs := [(0, .one (.data (.bool)))], vars := [], arrs := [] },
    tw := fun x => piece_litre x }
noncomputable def cx_piece_litre : Cx := { Γ := types, ow := [], fs := [], N := 21 }
theorem ok_piece_litre : FunOk Try.prog fn_piece_litre :=
  FunOk.intro (C := cx_piece_litre) (p := .nil)
    Try.func56 rfl nmr56 rfl rfl rfl rfl types_ok ⟨trivial, trivial⟩ mx (fun x => by kernel_rfl)

noncomputable def piece_total_L0 (f : List (Int × Int)) (sum : Int) (v : Int) : Option ((Int × Int) ⊕ Int) :=
  bif decide (v < (f.length : Int)) then (
   gd (inB v f.length) <|
   some (.inl (wi64 (sum + ((f.getD v.toNat (0, 0)).2)), wi64 (v + 1))))
  else (
   some (.inr sum))

noncomputable def piece_total (f : List (Int × Int)) : Option (Int) :=
  (iter (fun x => piece_total_L0 f x.1 x.2) (0, 0)).bind fun s =>
  some s

noncomputable def fn_piece_total : Fun :=
  { f := 57, np := 1, nr := 1,
    ji := { regs := [(0, .one (.data (.sl (.pair (.int .i64) (.int .i64)))))], vars := [], arrs := [] },
    jo := { regs := [(0, .one (.data (.int .i64)))], vars := [], arrs := [] },
    tw := fun x => piece_total x }
noncomputable def cx_piece_total : Cx := { Γ := types, ow := [], fs := [], N := 18 }
theorem ok_piece_total : FunOk Try.prog fn_piece_total :=
  FunOk.intro (C := cx_piece_total) (p := (.mk [] none .nil (.mk [] none .nil (.mk [] none (.mk [] none .nil (.mk [] none (.mk [] (some ({ regs := [(3, .one (.data (.int .i64))), (6, .one .keep), (7, .one .keep), (8, .one (.data (.int .i64)))], vars := [], arrs := [] }, [{ e := .x 0, j := { regs := [(3, .one (.data (.int .i64)))], vars := [], arrs := [] } }])) .nil .nil) .nil)) .nil))))
    Try.func57 rfl nmr57 rfl rfl rfl rfl types_ok ⟨trivial, trivial⟩ mx (fun x => by kernel_rfl)

noncomputable def piece_Valid_L0 (f : List (Int × Int)) (v : Int) : Option (Int ⊕ (Unit ⊕ Bool)) :=
  bif decide (v < (f.length : Int)) then (
   gd (inB v f.length) <|
   Option.bind (α := Bool) (
     (piece_litre ((f.getD v.toNat (0, 0)).1, (f.getD v.toNat (0, 0)).2)).bind fun r =>
     bif !r then (
      some true)
     else (
      bif decide ((f.getD v.toNat (0, 0)).2 = 0) then (
       some true)
      else (
       bif decide (0 < v) then (
        gd (inB (wi64 (v - 1)) f.length) <|
        some (decide ((f.getD (wi64 (v - 1)).toNat (0, 0)).1 = (f.getD v.toNat (0, 0)).1)))
       else (
        some false)))) fun s =>
   bif s then (
    some (.inr (.inr false)))
   else (
    some (.inl (wi64 (v + 1)))))
  else (
   some (.inr (.inl ())))

noncomputable def piece_Valid (f : List (Int × Int)) : Option (Bool) :=
  bif decide (200 < (f.length : Int)) then (
   some false)
  else (
   (iter (fun x => piece_Valid_L0 f x) 0).bind fun s2 =>
   s2.elim (fun s3 =>
    (piece_total f).bind fun r2 =>
    some (decide (r2 ≤ 1000000)))
   (fun s4 =>
    some s4))

noncomputable def fn_piece_Valid : Fun :=
  { f := 43, np := 1, nr := 1,
    ji := { regs := [(0, .one (.data (.sl (.pair (.int .i64) (.int .i64)))))], vars := [], arrs := [] },
    jo := { regs := [(0, .one (.data (.bool)))], vars := [], arrs := [] },
    tw := fun x => piece_Valid x }
noncomputable def cx_piece_Valid : Cx := { Γ := types, ow := [], fs := [fn_piece_litre, fn_piece_total], N := 42 }
theorem ok_piece_Valid : FunOk Try.prog fn_piece_Valid :=
  FunOk.intro (C := cx_piece_Valid) (p := (.mk [] none .nil (.mk [] none .nil (.mk [] none (.mk [] none .nil (.mk [] none (.mk [] (some ({ regs := [(0, .one .keep), (8, .one .keep), (9, .one .keep), (10, .one (.data (.int .i64)))], vars := [], arrs := [] }, [{ e := .x 0, j := { regs := [(0, .one .keep)], vars := [], arrs := [] } }, { e := .r, j := { regs := [(2, .one (.data (.bool)))], vars := [], arrs := [] } }])) (.mk [] none .nil (.mk [] none .nil (.mk [] none (.mk [] none (.mk [] none .nil (.mk [] none (.mk [.join [{ e := .n, j := { regs := [(0, .one .keep), (8, .one .keep), (9, .one .keep), (10, .one .keep), (37, .one (.data (.bool)))], vars := [], arrs := [] } }]] none .nil .nil) .nil)) .nil) .nil))) .nil) .nil)) .nil))))
    Try.func43 rfl nmr43 rfl rfl rfl rfl types_ok ⟨⟨ok_piece_litre, ok_piece_total, trivial⟩, trivial⟩ mx (fun x => by kernel_rfl)

noncomputable def audit_counted_L1 (fills : List (List (Int × Int))) (v : Int) (v2 : Int) (out2 : List (Int × Int)) : Option ((Int × List (Int × Int)) ⊕ (List (Int × Int))) :=
  bif decide (v2 < ((fills.getD v.toNat []).length : Int)) then (
   gd (inB v2 (fills.getD v.toNat []).length) <|
   some (.inl (wi64 (v2 + 1), mput keyI out2 (((fills.getD v.toNat []).getD v2.toNat (0, 0)).1) (wi64 (((mget keyI out2 (((fills.getD v.toNat []).getD v2.toNat (0, 0)).1)).getD 0) + (((fills.getD v.toNat []).getD v2.toNat (0, 0)).2))))))
  else (
   some (.inr out2))

noncomputable def audit_counted_L0 (fills : List (List (Int × Int))) (v : Int) (out : List (Int × Int)) : Option ((Int × List (Int × Int)) ⊕ ((List (Int × Int)) ⊕ ((List (Int × Int)) × Int))) :=
  bif decide (v < (fills.length : Int)) then (
   gd (inB v fills.length) <|
   (piece_Valid (fills.getD v.toNat [])).bind fun r =>
   bif !r then (
    some (.inr (.inr ([], 14))))
   else (
    (iter (fun x => audit_counted_L1 fills v x.1 x.2) (0, out)).bind fun s =>
    some (.inl (wi64 (v + 1), s))))
  else (
   some (.inr (.inl out)))

noncomputable def audit_counted (fills : List (List (Int × Int))) : Option ((List (Int × Int)) × Int) :=
  bif decide (32 < (fills.length : Int)) then (
   some ([], 4))
  else (
   (iter (fun x2 => audit_counted_L0 fills x2.1 x2.2) (0, [])).bind fun s2 =>
   s2.elim (fun s3 =>
    some (s3, 0))
   (fun s4 =>
    some (s4.1, s4.2)))

noncomputable def fn_audit_counted : Fun :=
  { f := 41, np := 1, nr := 2,
    ji := { regs := [(0, .one (.data (.sl (.sl (.pair (.int .i64) (.int .i64))))))], vars := [], arrs := [] },
    jo := { regs := [(0, .one (.data (.map (.int .i64) (.int .i64)))), (1, .one (.data (.int .i64)))], vars := [], arrs := [] },
    tw := fun x => audit_counted x }
noncomputable def cx_audit_counted : Cx := { Γ := types, ow := [], fs := [fn_piece_Valid], N := 38 }
theorem ok_audit_counted : FunOk Try.prog fn_audit_counted :=
  FunOk.intro (C := cx_audit_counted) (p := (.mk [] none .nil (.mk [] none .nil (.mk [] none .nil (.mk [] none (.mk [] none .nil (.mk [] none (.mk [] (some ({ regs := [(4, .one (.own 208)), (13, .one .keep), (14, .one .keep), (15, .one (.data (.int .i64)))], vars := [], arrs := [(208, .map true 83 (.int .i64) (.int .i64))] }, [{ e := .x 0, j := { regs := [(4, .one (.own 208))], vars := [], arrs := [(208, .map true 83 (.int .i64) (.int .i64))] } }, { e := .r, j := { regs := [(2, .one (.data (.map (.int .i64) (.int .i64)))), (3, .one (.data (.int .i64)))], vars := [], arrs := [] } }])) (.mk [] none .nil (.mk [] none .nil (.mk [] none (.mk [] none (.mk [] none .nil (.mk [] none .nil (.mk [] none .nil (.mk [] none (.mk [] (some ({ regs := [(4, .one (.own 208)), (13, .one .keep), (14, .one .keep), (15, .one .keep), (22, .one .keep), (23, .one .keep), (24, .one (.data (.int .i64)))], vars := [], arrs := [(208, .map true 83 (.int .i64) (.int .i64))] }, [{ e := .x 2, j := { regs := [(4, .one (.own 208)), (13, .one .keep), (14, .one .keep), (15, .one .keep)], vars := [], arrs := [(208, .map true 83 (.int .i64) (.int .i64))] } }])) .nil .nil) .nil)))) .nil) .nil))) .nil) .nil)) .nil)))))
    Try.func41 rfl nmr41 rfl rfl rfl rfl types_ok ⟨⟨ok_piece_Valid, trivial⟩, trivial⟩ mx (fun x => by kernel_rfl)

noncomputable def audit_Kept_L1 (before : List (List (Int × Int))) (after : List (List (Int × Int))) (vin : List (Int × Int)) (out : List (Int × Int)) (v : Int) (sums2 : List (Int × Int)) (v2 : List (Int × Int)) : List (Option (((List (Int × Int)) × List (Int × Int)) ⊕ (List (Int × Int)))) :=
  bif isNilL v2.tail then [
   some (.inr sums2)]
  else ((List.range v2.tail.length).map fun i =>
   bif decide ((mget keyI (mput keyI sums2 (((pickAt (0, 0) v2.tail i).headD (0, 0)).1) (wi64 (((mget keyI sums2 (((pickAt (0, 0) v2.tail i).headD (0, 0)).1)).getD 0) + (wi64 ((([(before, 1), (after, (-1)), ([vin], 1), ([out], (-1))].getD v.toNat ([], 0)).2) * (((pickAt (0, 0) v2.tail i).headD (0, 0)).2)))))) (((pickAt (0, 0) v2.tail i).headD (0, 0)).1)).getD 0 = 0) then (
    some (.inl (mdel keyI (mput keyI sums2 (((pickAt (0, 0) v2.tail i).headD (0, 0)).1) (wi64 (((mget keyI sums2 (((pickAt (0, 0) v2.tail i).headD (0, 0)).1)).getD 0) + (wi64 ((([(before, 1), (after, (-1)), ([vin], 1), ([out], (-1))].getD v.toNat ([], 0)).2) * (((pickAt (0, 0) v2.tail i).headD (0, 0)).2)))))) (((pickAt (0, 0) v2.tail i).headD (0, 0)).1), pickAt (0, 0) v2.tail i)))
   else (
    some (.inl (mput keyI sums2 (((pickAt (0, 0) v2.tail i).headD (0, 0)).1) (wi64 (((mget keyI sums2 (((pickAt (0, 0) v2.tail i).headD (0, 0)).1)).getD 0) + (wi64 ((([(before, 1), (after, (-1)), ([vin], 1), ([out], (-1))].getD v.toNat ([], 0)).2) * (((pickAt (0, 0) v2.tail i).headD (0, 0)).2))))), pickAt (0, 0) v2.tail i))))

noncomputable def audit_Kept_L0 (before : List (List (Int × Int))) (after : List (List (Int × Int))) (vin : List (Int × Int)) (out : List (Int × Int)) (v : Int) (sums : List (Int × Int)) : Option ((Int × List (Int × Int)) ⊕ ((List (Int × Int)) ⊕ (Bool × Int))) :=
  bif decide (v < ([(before, 1), (after, (-1)), ([vin], 1), ([out], (-1))].length : Int)) then (
   gd (inB v [(before, 1), (after, (-1)), ([vin], 1), ([out], (-1))].length) <|
   (audit_counted (([(before, 1), (after, (-1)), ([vin], 1), ([out], (-1))].getD v.toNat ([], 0)).1)).bind fun r =>
   bif !decide (r.2 = 0) then (
    some (.inr (.inr (false, r.2))))
   else (
    (iterA (fun x => audit_Kept_L1 before after vin out v x.1 x.2) (sums, ((0, 0) :: r.1))).bind fun s =>
    some (.inl (wi64 (v + 1), s))))
  else (
   some (.inr (.inl sums)))

noncomputable def audit_Kept (before : List (List (Int × Int))) (after : List (List (Int × Int))) (vin : List (Int × Int)) (out : List (Int × Int)) : Option (Bool × Int) :=
  (iter (fun x2 => audit_Kept_L0 before after vin out x2.1 x2.2) (0, [])).bind fun s2 =>
  s2.elim (fun s3 =>
   some (decide ((s3.length : Int) = 0), 0))
  (fun s4 =>
   some (s4.1, s4.2))

noncomputable def fn_audit_Kept : Fun :=
  { f := 15, np := 4, nr := 2,
    ji := { regs := [(0, .one (.data (.sl (.sl (.pair (.int .i64) (.int .i64)))))), (1, .one (.data (.sl (.sl (.pair (.int .i64) (.int .i64)))))), (2, .one (.data (.sl (.pair (.int .i64) (.int .i64))))), (3, .one (.data (.sl (.pair (.int .i64) (.int .i64)))))], vars := [], arrs := [] },
    jo := { regs := [(0, .one (.data (.bool))), (1, .one (.data (.int .i64)))], vars := [], arrs := [] },
    tw := fun x => audit_Kept x.1 x.2.1 x.2.2.1 x.2.2.2 }
noncomputable def cx_audit_Kept : Cx := { Γ := types, ow := [], fs := [fn_audit_counted], N := 68 }
theorem ok_audit_Kept : FunOk Try.prog fn_audit_Kept :=
  FunOk.intro (C := cx_audit_Kept) (p := (.mk [] none .nil (.mk [] none .nil (.mk [] none (.mk [] none .nil (.mk [] none (.mk [] (some ({ regs := [(10, .one (.own 288)), (28, .one .keep), (29, .one .keep), (30, .one (.data (.int .i64)))], vars := [], arrs := [(288, .map true 83 (.int .i64) (.int .i64))] }, [{ e := .x 0, j := { regs := [(10, .one (.own 288))], vars := [], arrs := [(288, .map true 83 (.int .i64) (.int .i64))] } }, { e := .r, j := { regs := [(8, .one (.data (.bool))), (9, .one (.data (.int .i64)))], vars := [], arrs := [] } }])) (.mk [] none .nil (.mk [] none .nil (.mk [] none (.mk [] none (.mk [] none .nil (.mk [] none .nil (.mk [] none .nil (.mk [] none .nil (.mk [] none (.mk [] (some ({ regs := [(10, .one (.own 288)), (12, .one (.ptr 208 0)), (28, .one .keep), (29, .one .keep), (30, .one .keep), (44, .one (.own 720))], vars := [(208, 84, [.keep, .keep])], arrs := [(288, .map true 83 (.int .i64) (.int .i64)), (720, .iter false (.int .i64) (.int .i64))] }, [{ e := .x 2, j := { regs := [(10, .one (.own 288)), (28, .one .keep), (29, .one .keep), (30, .one .keep)], vars := [], arrs := [(288, .map true 83 (.int .i64) (.int .i64))] } }])) .nil .nil) .nil))))) .nil) .nil))) .nil) .nil)) .nil))))
    Try.func15 rfl nmr15 rfl rfl rfl rfl types_ok ⟨⟨ok_audit_counted, trivial⟩, trivial⟩ mx (fun x => by kernel_rfl)

noncomputable def slices_Clone_api_Piece_api_Piece (s : List (Int × Int)) : Option (List (Int × Int)) :=
  bif Nat.beq s.length 0 then (bothO (
   some []) (
   gd (fits (0 + s.length) 16) <|
   some ([] ++ s)))
  else (
   gd (fits (0 + s.length) 16) <|
   some ([] ++ s))

noncomputable def fn_slices_Clone_api_Piece_api_Piece : Fun :=
  { f := 59, np := 1, nr := 1,
    ji := { regs := [(0, .one (.data (.sl (.pair (.int .i64) (.int .i64)))))], vars := [], arrs := [] },
    jo := { regs := [(0, .one (.own 0))], vars := [], arrs := [(0, .arr 46 (.pair (.int .i64) (.int .i64)))] },
    tw := fun x => slices_Clone_api_Piece_api_Piece x }
noncomputable def cx_slices_Clone_api_Piece_api_Piece : Cx := { Γ := types, ow := [5], fs := [], N := 8 }
theorem ok_slices_Clone_api_Piece_api_Piece : FunOk Try.prog fn_slices_Clone_api_Piece_api_Piece :=
  FunOk.intro (C := cx_slices_Clone_api_Piece_api_Piece) (p := .nil)
    Try.func59 rfl nmr59 rfl rfl rfl rfl types_ok ⟨trivial, trivial⟩ mx (fun x => by kernel_rfl)

noncomputable def piece_merged_L0 (f : List (Int × Int)) (v : Int) (out : List (Int × Int)) : Option ((Int × List (Int × Int)) ⊕ (List (Int × Int))) :=
  bif decide (v < (f.length : Int)) then (
   gd (inB v f.length) <|
   Option.bind (α := List (Int × Int)) (
     bif decide ((f.getD v.toNat (0, 0)).1 = (f.getD v.toNat (0, 0)).1) && decide ((f.getD v.toNat (0, 0)).2 = 0) then (
      some out)
     else (
      Option.bind (α := Bool × List (Int × Int)) (
        bif decide (0 < (out.length : Int)) then (
         gd (inB (wi64 ((out.length : Int) - 1)) out.length) <|
         some (decide ((out.getD ((wi64 ((out.length : Int) - 1)).toNat) (0, 0)).1 = (f.getD v.toNat (0, 0)).1), out))
        else (
         some (false, out))) fun s =>
      Option.bind (α := List (Int × Int)) (
        bif s.1 then (
         gd (inB (wi64 ((out.length : Int) - 1)) s.2.length) <|
         gd (inB (wi64 ((out.length : Int) - 1)) s.2.length) <|
         some (s.2.set ((wi64 ((out.length : Int) - 1)).toNat) ((s.2.getD ((wi64 ((out.length : Int) - 1)).toNat) (0, 0)).1, wi64 (((s.2.getD ((wi64 ((out.length : Int) - 1)).toNat) (0, 0)).2) + ((f.getD v.toNat (0, 0)).2)))))
        else (
         gd (fits (s.2.length + 1) 16) <|
         some (s.2 ++ [((f.getD v.toNat (0, 0)).1, (f.getD v.toNat (0, 0)).2)]))) fun s2 =>
      some s2)) fun s3 =>
   some (.inl (wi64 (v + 1), s3)))
  else (
   some (.inr out))

noncomputable def piece_merged (f : List (Int × Int)) : Option (List (Int × Int)) :=
  (iter (fun x => piece_merged_L0 f x.1 x.2) (0, [])).bind fun s4 =>
  some s4

noncomputable def fn_piece_merged : Fun :=
  { f := 62, np := 1, nr := 1,
    ji := { regs := [(0, .one (.data (.sl (.pair (.int .i64) (.int .i64)))))], vars := [], arrs := [] },
    jo := { regs := [(0, .one (.own 0))], vars := [], arrs := [(0, .arr 46 (.pair (.int .i64) (.int .i64)))] },
    tw := fun x => piece_merged x }
noncomputable def cx_piece_merged : Cx := { Γ := types, ow := [], fs := [], N := 52 }
theorem ok_piece_merged : FunOk Try.prog fn_piece_merged :=
  FunOk.intro (C := cx_piece_merged) (p := (.mk [] none .nil (.mk [] none .nil (.mk [] none (.mk [] none .nil (.mk [] none (.mk [] (some ({ regs := [(3, .one (.own 75)), (7, .one .keep), (8, .one .keep), (9, .one (.data (.int .i64)))], vars := [], arrs := [(75, .arr 46 (.pair (.int .i64) (.int .i64)))] }, [{ e := .x 0, j := { regs := [(3, .one (.own 75))], vars := [], arrs := [(75, .arr 46 (.pair (.int .i64) (.int .i64)))] } }])) (.mk [] none .nil (.mk [] none .nil (.mk [] none (.mk [] none (.mk [] none .nil (.mk [] none .nil (.mk [] none (.mk [] none .nil (.mk [.join [{ e := .n, j := { regs := [(3, .one (.own 75)), (7, .one .keep), (8, .one .keep), (9, .one .keep)], vars := [], arrs := [(75, .arr 46 (.pair (.int .i64) (.int .i64)))] } }]] none .nil (.mk [] none (.mk [.join [{ e := .n, j := { regs := [(3, .one (.own 75)), (5, .one (.ptr 96 0)), (6, .one .keep), (7, .one .keep), (8, .one .keep), (9, .one .keep), (25, .one (.data (.bool)))], vars := [(96, 46, [.keep, .keep])], arrs := [(75, .arr 46 (.pair (.int .i64) (.int .i64)))] } }]] none .nil .nil) (.mk [.join [{ e := .n, j := { regs := [(3, .one (.own 75)), (7, .one .keep), (8, .one .keep), (9, .one .keep)], vars := [], arrs := [(75, .arr 46 (.pair (.int .i64) (.int .i64)))] } }]] none .nil .nil)))) .nil))) .nil) .nil))) .nil) .nil)) .nil))))
    Try.func62 rfl nmr62 rfl rfl rfl rfl types_ok ⟨trivial, trivial⟩ mx (fun x => by kernel_rfl)

noncomputable def piece_cut_L0 (f : List (Int × Int)) (litres2 : Int) (v : Int) (head : List (Int × Int)) (tail : List (Int × Int)) : Option ((Int × Int × (List (Int × Int)) × List (Int × Int)) ⊕ ((List (Int × Int)) × List (Int × Int))) :=
  bif decide (v < (f.length : Int)) then (
   gd (inB v f.length) <|
   gd (inB v head.length) <|
   gd (inB v (head.set v.toNat ((head.getD v.toNat (0, 0)).1, min ((f.getD v.toNat (0, 0)).2) litres2)).length) <|
   gd (inB v (head.set v.toNat ((head.getD v.toNat (0, 0)).1, min ((f.getD v.toNat (0, 0)).2) litres2)).length) <|
   gd (inB v tail.length) <|
   some (.inl (wi64 (litres2 - (((head.set v.toNat ((head.getD v.toNat (0, 0)).1, min ((f.getD v.toNat (0, 0)).2) litres2)).getD v.toNat (0, 0)).2)), wi64 (v + 1), head.set v.toNat ((head.getD v.toNat (0, 0)).1, min ((f.getD v.toNat (0, 0)).2) litres2), tail.set v.toNat ((tail.getD v.toNat (0, 0)).1, wi64 (((f.getD v.toNat (0, 0)).2) - (((head.set v.toNat ((head.getD v.toNat (0, 0)).1, min ((f.getD v.toNat (0, 0)).2) litres2)).getD v.toNat (0, 0)).2))))))
  else (
   some (.inr (head, tail)))

noncomputable def piece_cut (f : List (Int × Int)) (litres : Int) : Option ((List (Int × Int)) × List (Int × Int)) :=
  (slices_Clone_api_Piece_api_Piece f).bind fun r =>
  (slices_Clone_api_Piece_api_Piece f).bind fun r2 =>
  (iter (fun x => piece_cut_L0 f x.1 x.2.1 x.2.2.1 x.2.2.2) (litres, 0, r, r2)).bind fun s =>
  (piece_merged s.1).bind fun r3 =>
  (piece_merged s.2).bind fun r4 =>
  some (r3, r4)

noncomputable def fn_piece_cut : Fun :=
  { f := 58, np := 2, nr := 2,
    ji := { regs := [(0, .one (.data (.sl (.pair (.int .i64) (.int .i64))))), (1, .one (.data (.int .i64)))], vars := [], arrs := [] },
    jo := { regs := [(0, .one (.own 0)), (1, .one (.own 1))], vars := [], arrs := [(0, .arr 46 (.pair (.int .i64) (.int .i64))), (1, .arr 46 (.pair (.int .i64) (.int .i64)))] },
    tw := fun x => piece_cut x.1 x.2 }
noncomputable def cx_piece_cut : Cx := { Γ := types, ow := [], fs := [fn_slices_Clone_api_Piece_api_Piece, fn_piece_merged], N := 53 }
theorem ok_piece_cut : FunOk Try.prog fn_piece_cut :=
  FunOk.intro (C := cx_piece_cut) (p := (.mk [] none .nil (.mk [] none .nil (.mk [] none (.mk [] none .nil (.mk [] none (.mk [] (some ({ regs := [(1, .one (.data (.int .i64))), (6, .one (.own 192)), (7, .one (.own 224)), (14, .one .keep), (15, .one .keep), (16, .one (.data (.int .i64)))], vars := [], arrs := [(192, .arr 46 (.pair (.int .i64) (.int .i64))), (224, .arr 46 (.pair (.int .i64) (.int .i64)))] }, [{ e := .x 0, j := { regs := [(6, .one (.own 192)), (7, .one (.own 224))], vars := [], arrs := [(192, .arr 46 (.pair (.int .i64) (.int .i64))), (224, .arr 46 (.pair (.int .i64) (.int .i64)))] } }])) .nil .nil) .nil)) (.mk [] none (.mk [.fz [6, 7]] none .nil .nil) .nil)))))
    Try.func58 rfl nmr58 rfl rfl rfl rfl types_ok ⟨⟨ok_slices_Clone_api_Piece_api_Piece, ok_piece_merged, trivial⟩, trivial⟩ mx (fun x => by kernel_rfl)

noncomputable def piece_Push (f : List (Int × Int)) (vin : List (Int × Int)) (back : Bool) : Option (Int × (List (Int × Int)) × List (Int × Int)) :=
  Option.bind (α := Bool) (
    (piece_Valid f).bind fun r =>
    bif !r then (
     some true)
    else (
     (piece_Valid vin).bind fun r2 =>
     some (!r2))) fun s =>
  bif s then (
   some (9, [], []))
  else (
   Option.bind (α := (List (Int × Int)) × List (Int × Int)) (
     bif back then (
      (slices_Clone_api_Piece_api_Piece f).bind fun r3 =>
      gd (fits (r3.length + vin.length) 16) <|
      (piece_total vin).bind fun r4 =>
      (piece_cut (r3 ++ vin) r4).bind fun r5 =>
      some (r5.2, r5.1))
     else (
      (slices_Clone_api_Piece_api_Piece vin).bind fun r6 =>
      gd (fits (r6.length + f.length) 16) <|
      (piece_total f).bind fun r7 =>
      (piece_cut (r6 ++ f) r7).bind fun r8 =>
      some (r8.1, r8.2))) fun s2 =>
   Option.bind (α := Bool × (List (Int × Int)) × List (Int × Int)) (
     bif decide (200 < (s2.1.length : Int)) then (
      some (true, s2.1, s2.2))
     else (
      some (decide (200 < (s2.2.length : Int)), s2.1, s2.2))) fun s3 =>
   bif s3.1 then (
    some (4, [], []))
   else (
    some (0, s3.2.1, s3.2.2)))

noncomputable def fn_piece_Push : Fun :=
  { f := 44, np := 3, nr := 3,
    ji := { regs := [(0, .one (.data (.sl (.pair (.int .i64) (.int .i64))))), (1, .one (.data (.sl (.pair (.int .i64) (.int .i64))))), (2, .one (.data (.bool)))], vars := [], arrs := [] },
    jo := { regs := [(0, .one (.own 0)), (1, .one (.own 1)), (2, .one (.data (.int .i64)))], vars := [], arrs := [(0, .arr 46 (.pair (.int .i64) (.int .i64))), (1, .arr 46 (.pair (.int .i64) (.int .i64)))] },
    tw := fun x => piece_Push x.1 x.2.1 x.2.2 }
noncomputable def cx_piece_Push : Cx := { Γ := types, ow := [], fs := [fn_piece_Valid, fn_slices_Clone_api_Piece_api_Piece, fn_piece_total, fn_piece_cut], N := 50 }
theorem ok_piece_Push : FunOk Try.prog fn_piece_Push :=
  FunOk.intro (C := cx_piece_Push) (p := (.mk [] none .nil (.mk [] none (.mk [] none (.mk [.join [{ e := .n, j := { regs := [(0, .one .keep), (1, .one .keep), (2, .one .keep), (18, .one (.data (.bool)))], vars := [], arrs := [] } }]] none .nil .nil) .nil) (.mk [] none .nil (.mk [] none (.mk [] none .nil (.mk [.join [{ e := .n, j := { regs := [(9, .one (.own 171)), (10, .one (.own 187))], vars := [], arrs := [(171, .arr 46 (.pair (.int .i64) (.int .i64))), (187, .arr 46 (.pair (.int .i64) (.int .i64)))] } }]] none .nil .nil)) (.mk [] none (.mk [] none (.mk [.join [{ e := .n, j := { regs := [(9, .one (.own 171)), (10, .one (.own 187)), (47, .one (.data (.bool)))], vars := [], arrs := [(171, .arr 46 (.pair (.int .i64) (.int .i64))), (187, .arr 46 (.pair (.int .i64) (.int .i64)))] } }]] none .nil .nil) .nil) .nil))))))
    Try.func44 rfl nmr44 rfl rfl rfl rfl types_ok ⟨⟨ok_piece_Valid, ok_slices_Clone_api_Piece_api_Piece, ok_piece_total, ok_piece_cut, trivial⟩, trivial⟩ mx (fun x => by kernel_rfl)

noncomputable def slices_Equal_api_Piece_api_Piece_L0 (s1 : List (Int × Int)) (s2 : List (Int × Int)) (v : Int) : Option (Int ⊕ (Unit ⊕ Bool)) :=
  bif decide (v < (s1.length : Int)) then (
   gd (inB v s1.length) <|
   gd (inB v s2.length) <|
   bif !(decide ((s1.getD v.toNat (0, 0)).1 = (s2.getD v.toNat (0, 0)).1) && decide ((s1.getD v.toNat (0, 0)).2 = (s2.getD v.toNat (0, 0)).2)) then (
    some (.inr (.inr false)))
   else (
    some (.inl (wi64 (v + 1)))))
  else (
   some (.inr (.inl ())))

noncomputable def slices_Equal_api_Piece_api_Piece (s1 : List (Int × Int)) (s2 : List (Int × Int)) : Option (Bool) :=
  bif !decide ((s1.length : Int) = (s2.length : Int)) then (
   some false)
  else (
   (iter (fun x => slices_Equal_api_Piece_api_Piece_L0 s1 s2 x) 0).bind fun s =>
   s.elim (fun s3 =>
    some true)
   (fun s4 =>
    some s4))

noncomputable def fn_slices_Equal_api_Piece_api_Piece : Fun :=
  { f := 45, np := 2, nr := 1,
    ji := { regs := [(0, .one (.data (.sl (.pair (.int .i64) (.int .i64))))), (1, .one (.data (.sl (.pair (.int .i64) (.int .i64)))))], vars := [], arrs := [] },
    jo := { regs := [(0, .one (.data (.bool)))], vars := [], arrs := [] },
    tw := fun x => slices_Equal_api_Piece_api_Piece x.1 x.2 }
noncomputable def cx_slices_Equal_api_Piece_api_Piece : Cx := { Γ := types, ow := [], fs := [], N := 26 }
theorem ok_slices_Equal_api_Piece_api_Piece : FunOk Try.prog fn_slices_Equal_api_Piece_api_Piece :=
  FunOk.intro (C := cx_slices_Equal_api_Piece_api_Piece) (p := (.mk [] none .nil (.mk [] none .nil (.mk [] none (.mk [] none .nil (.mk [] none (.mk [] (some ({ regs := [(0, .one .keep), (1, .one .keep), (12, .one .keep), (13, .one (.data (.int .i64)))], vars := [], arrs := [] }, [{ e := .x 0, j := { regs := [], vars := [], arrs := [] } }, { e := .r, j := { regs := [(4, .one (.data (.bool)))], vars := [], arrs := [] } }])) .nil .nil) .nil)) .nil))))
    Try.func45 rfl nmr45 rfl rfl rfl rfl types_ok ⟨trivial, trivial⟩ mx (fun x => by kernel_rfl)

noncomputable def audit_Order_L0 (before : List (Int × Int)) (after : List (Int × Int)) (vin : List (Int × Int)) (out : List (Int × Int)) (v : Int) : Option (Int ⊕ (Unit ⊕ (Bool × Int))) :=
  bif decide (v < ([before, after, vin, out].length : Int)) then (
   gd (inB v [before, after, vin, out].length) <|
   (piece_Valid ([before, after, vin, out].getD v.toNat [])).bind fun r =>
   bif !r then (
    some (.inr (.inr (false, 14))))
   else (
    some (.inl (wi64 (v + 1)))))
  else (
   some (.inr (.inl ())))

noncomputable def audit_Order (before : List (Int × Int)) (after : List (Int × Int)) (vin : List (Int × Int)) (out : List (Int × Int)) (back : Bool) : Option (Bool × Int) :=
  (iter (fun x => audit_Order_L0 before after vin out x) 0).bind fun s =>
  s.elim (fun s2 =>
   (piece_Push before vin back).bind fun r2 =>
   bif decide (r2.1 = 0) then (
    (slices_Equal_api_Piece_api_Piece r2.2.1 after).bind fun r3 =>
    bif r3 then (
     (slices_Equal_api_Piece_api_Piece r2.2.2 out).bind fun r4 =>
     some (r4, 0))
    else (
     some (false, 0)))
   else (
    some (false, 0)))
  (fun s3 =>
   some (s3.1, s3.2))

noncomputable def fn_audit_Order : Fun :=
  { f := 19, np := 5, nr := 2,
    ji := { regs := [(0, .one (.data (.sl (.pair (.int .i64) (.int .i64))))), (1, .one (.data (.sl (.pair (.int .i64) (.int .i64))))), (2, .one (.data (.sl (.pair (.int .i64) (.int .i64))))), (3, .one (.data (.sl (.pair (.int .i64) (.int .i64))))), (4, .one (.data (.bool)))], vars := [], arrs := [] },
    jo := { regs := [(0, .one (.data (.bool))), (1, .one (.data (.int .i64)))], vars := [], arrs := [] },
    tw := fun x => audit_Order x.1 x.2.1 x.2.2.1 x.2.2.2.1 x.2.2.2.2 }
noncomputable def cx_audit_Order : Cx := { Γ := types, ow := [], fs := [fn_piece_Valid, fn_piece_Push, fn_slices_Equal_api_Piece_api_Piece], N := 51 }
theorem ok_audit_Order : FunOk Try.prog fn_audit_Order :=
  FunOk.intro (C := cx_audit_Order) (p := (.mk [] none .nil (.mk [] none (.mk [] none .nil (.mk [] none (.mk [] (some ({ regs := [(0, .one .keep), (1, .one .keep), (2, .one .keep), (3, .one .keep), (4, .one .keep), (21, .one .keep), (22, .one .keep), (23, .one (.data (.int .i64)))], vars := [], arrs := [] }, [{ e := .x 0, j := { regs := [(0, .one .keep), (1, .one .keep), (2, .one .keep), (3, .one .keep), (4, .one .keep)], vars := [], arrs := [] } }, { e := .r, j := { regs := [(10, .one (.data (.bool))), (11, .one (.data (.int .i64)))], vars := [], arrs := [] } }])) .nil .nil) .nil)) .nil)))
    Try.func19 rfl nmr19 rfl rfl rfl rfl types_ok ⟨⟨ok_piece_Valid, ok_piece_Push, ok_slices_Equal_api_Piece_api_Piece, trivial⟩, trivial⟩ mx (fun x => by kernel_rfl)

noncomputable def law45_awake : Option (Bool) :=
  (audit_Kept [[(1, 100)]] [[(2, 30), (1, 70)]] [(2, 30)] [(1, 30)]).bind fun r =>
  (audit_Order [(1, 100)] [(2, 30), (1, 70)] [(2, 30)] [(1, 30)] false).bind fun r2 =>
  (audit_Order [(1, 100)] [(2, 30), (1, 70)] [(2, 30)] [(1, 30)] true).bind fun r3 =>
  bif decide (r.2 = 0) then (
   bif decide (r2.2 = 0) then (
    bif decide (r3.2 = 0) then (
     bif r.1 then (
      bif r2.1 then (
       some (!r3.1))
      else (
       some false))
     else (
      some false))
    else (
     some false))
   else (
    some false))
  else (
   some false)

noncomputable def fn_law45_awake : Fun :=
  { f := 7, np := 0, nr := 1,
    ji := { regs := [], vars := [], arrs := [] },
    jo := { regs := [(0, .one (.data (.bool)))], vars := [], arrs := [] },
    tw := fun x => law45_awake }
noncomputable def cx_law45_awake : Cx := { Γ := types, ow := [], fs := [fn_audit_Kept, fn_audit_Order], N := 66 }
theorem ok_law45_awake : FunOk Try.prog fn_law45_awake :=
  FunOk.intro (C := cx_law45_awake) (p := .nil)
    Try.func7 rfl nmr7 rfl rfl rfl rfl types_ok ⟨⟨ok_audit_Kept, ok_audit_Order, trivial⟩, trivial⟩ mx (fun x => by kernel_rfl)

noncomputable def keep_New (l : List Int) : Option (List Int × Int) :=
  gd (cutG none (some (.i64, min (l.length : Int) 2000)) l.length) <|
  some (l.take (min (l.length : Int) 2000).toNat, 0)

noncomputable def fn_keep_New : Fun :=
  { f := 8, np := 1, nr := 1,
    ji := { regs := [(0, .one (.data (.sl (.int .i64))))], vars := [], arrs := [] },
    jo := { regs := [(0, .one (.ptr 0 0))], vars := [(0, 66, [.data (.sl (.int .i64)), .data (.int .i64)])], arrs := [] },
    tw := fun x => keep_New x }
noncomputable def cx_keep_New : Cx := { Γ := types, ow := [], fs := [], N := 10 }
theorem ok_keep_New : FunOk Try.prog fn_keep_New :=
  FunOk.intro (C := cx_keep_New) (p := .nil)
    Try.func8 rfl nmr8 rfl rfl rfl rfl types_ok ⟨trivial, trivial⟩ mx (fun x => by kernel_rfl)

noncomputable def keep_Src_Raw (s : List Int) (s2 : Int) : Option (Int × List Int × Int) :=
  bif decide ((s.length : Int) ≤ s2) then (
   some (0, s, s2))
  else (
   gd (inB (wi64 ((wi64 (s2 + 1)) - 1)) s.length) <|
   some (s.getD (wi64 ((wi64 (s2 + 1)) - 1)).toNat 0, s, wi64 (s2 + 1)))

noncomputable def fn_keep_Src_Raw : Fun :=
  { f := 47, np := 1, nr := 1,
    ji := { regs := [(0, .one (.ptr 0 0))], vars := [(0, 66, [.data (.sl (.int .i64)), .data (.int .i64)])], arrs := [] },
    jo := { regs := [(0, .one (.data (.int .i64)))], vars := [(0, 66, [.data (.sl (.int .i64)), .data (.int .i64)])], arrs := [] },
    tw := fun x => keep_Src_Raw x.1 x.2 }
noncomputable def cx_keep_Src_Raw : Cx := { Γ := types, ow := [], fs := [], N := 31 }
theorem ok_keep_Src_Raw : FunOk Try.prog fn_keep_Src_Raw :=
  FunOk.intro (C := cx_keep_Src_Raw) (p := .nil)
    Try.func47 rfl nmr47 rfl rfl rfl rfl types_ok ⟨trivial, trivial⟩ mx (fun x => by kernel_rfl)

noncomputable def keep_Mod (x : Int) (n : Int) : Option (Int) :=
  bif decide (n < 1) then (
   some 0)
  else (
   gd (!decide (n = 0)) <|
   bif decide (Int.tmod x n < 0) then (
    some (wi64 ((Int.tmod x n) + n)))
   else (
    some (Int.tmod x n)))

noncomputable def fn_keep_Mod : Fun :=
  { f := 46, np := 2, nr := 1,
    ji := { regs := [(0, .one (.data (.int .i64))), (1, .one (.data (.int .i64)))], vars := [], arrs := [] },
    jo := { regs := [(0, .one (.data (.int .i64)))], vars := [], arrs := [] },
    tw := fun x => keep_Mod x.1 x.2 }
noncomputable def cx_keep_Mod : Cx := { Γ := types, ow := [], fs := [], N := 16 }
theorem ok_keep_Mod : FunOk Try.prog fn_keep_Mod :=
  FunOk.intro (C := cx_keep_Mod) (p := .nil)
    Try.func46 rfl nmr46 rfl rfl rfl rfl types_ok ⟨trivial, trivial⟩ mx (fun x => by kernel_rfl)

noncomputable def keep_Src_N (n : Int) (s : List Int) (s2 : Int) : Option (Int × List Int × Int) :=
  (keep_Src_Raw s s2).bind fun r =>
  (keep_Mod r.1 n).bind fun r2 =>
  some (r2, r.2.1, r.2.2)

noncomputable def fn_keep_Src_N : Fun :=
  { f := 20, np := 2, nr := 1,
    ji := { regs := [(0, .one (.ptr 0 0)), (1, .one (.data (.int .i64)))], vars := [(0, 66, [.data (.sl (.int .i64)), .data (.int .i64)])], arrs := [] },
    jo := { regs := [(0, .one (.data (.int .i64)))], vars := [(0, 66, [.data (.sl (.int .i64)), .data (.int .i64)])], arrs := [] },
    tw := fun x => keep_Src_N x.1 x.2.1 x.2.2 }
noncomputable def cx_keep_Src_N : Cx := { Γ := types, ow := [], fs := [fn_keep_Src_Raw, fn_keep_Mod], N := 9 }
theorem ok_keep_Src_N : FunOk Try.prog fn_keep_Src_N :=
  FunOk.intro (C := cx_keep_Src_N) (p := .nil)
    Try.func20 rfl nmr20 rfl rfl rfl rfl types_ok ⟨⟨ok_keep_Src_Raw, ok_keep_Mod, trivial⟩, trivial⟩ mx (fun x => by kernel_rfl)

noncomputable def keep_Src_Range (lo : Int) (hi : Int) (s : List Int) (s2 : Int) : Option (Int × List Int × Int) :=
  (keep_Src_N (wi64 ((wi64 (hi - lo)) + 1)) s s2).bind fun r =>
  some (wi64 (lo + r.1), r.2.1, r.2.2)

noncomputable def fn_keep_Src_Range : Fun :=
  { f := 17, np := 3, nr := 1,
    ji := { regs := [(0, .one (.ptr 0 0)), (1, .one (.data (.int .i64))), (2, .one (.data (.int .i64)))], vars := [(0, 66, [.data (.sl (.int .i64)), .data (.int .i64)])], arrs := [] },
    jo := { regs := [(0, .one (.data (.int .i64)))], vars := [(0, 66, [.data (.sl (.int .i64)), .data (.int .i64)])], arrs := [] },
    tw := fun x => keep_Src_Range x.1 x.2.1 x.2.2.1 x.2.2.2 }
noncomputable def cx_keep_Src_Range : Cx := { Γ := types, ow := [], fs := [fn_keep_Src_N], N := 15 }
theorem ok_keep_Src_Range : FunOk Try.prog fn_keep_Src_Range :=
  FunOk.intro (C := cx_keep_Src_Range) (p := .nil)
    Try.func17 rfl nmr17 rfl rfl rfl rfl types_ok ⟨⟨ok_keep_Src_N, trivial⟩, trivial⟩ mx (fun x => by kernel_rfl)

noncomputable def keep_Src_Fill_L0 (batches : Int) (volume2 : Int) (s3 : List Int) (s4 : Int) (out : List (Int × Int)) : Option ((Int × List Int × Int × List (Int × Int)) ⊕ (List Int × Int × List (Int × Int))) :=
  Option.bind (α := Bool × List (Int × Int)) (
    bif decide (0 < volume2) then (
     some (decide ((out.length : Int) < 12), out))
    else (
     some (false, out))) fun s5 =>
  bif s5.1 then (
   (keep_Src_N batches s3 s4).bind fun r =>
   (keep_Src_Range 1 (max 1 (wi64 (Int.tdiv (wi64 (volume2 * 2)) 3))) r.2.1 r.2.2).bind fun r2 =>
   Option.bind (α := Int × List (Int × Int)) (
     bif decide ((s5.2.length : Int) = 11) then (
      some (volume2, s5.2))
     else (
      some (r2.1, s5.2))) fun s6 =>
   Option.bind (α := Bool × List (Int × Int)) (
     bif decide (0 < (s6.2.length : Int)) then (
      gd (inB (wi64 ((s6.2.length : Int) - 1)) s6.2.length) <|
      some (decide ((s6.2.getD ((wi64 ((s6.2.length : Int) - 1)).toNat) (0, 0)).1 = r.1), s6.2))
     else (
      some (false, s6.2))) fun s7 =>
   Option.bind (α := (Int × Int × List (Int × Int)) ⊕ (Int × List (Int × Int))) (
     bif s7.1 then (
      gd (!decide (batches = 0)) <|
      gd (inB (wi64 ((s7.2.length : Int) - 1)) s7.2.length) <|
      bif decide ((s7.2.getD ((wi64 ((s7.2.length : Int) - 1)).toNat) (0, 0)).1 = Int.tmod (wi64 (r.1 + 1)) batches) then (
       gd (inB (wi64 ((s7.2.length : Int) - 1)) s7.2.length) <|
       gd (inB (wi64 ((s7.2.length : Int) - 1)) s7.2.length) <|
       some (.inr (wi64 (volume2 - (min s6.1 volume2)), s7.2.set ((wi64 ((s7.2.length : Int) - 1)).toNat) ((s7.2.getD ((wi64 ((s7.2.length : Int) - 1)).toNat) (0, 0)).1, wi64 (((s7.2.getD ((wi64 ((s7.2.length : Int) - 1)).toNat) (0, 0)).2) + (min s6.1 volume2))))))
      else (
       some (.inl (volume2, Int.tmod (wi64 (r.1 + 1)) batches, s7.2))))
     else (
      some (.inl (volume2, r.1, s7.2)))) fun s8 =>
   s8.elim (fun s9 =>
    gd (fits (s9.2.2.length + 1) 16) <|
    some (.inl (wi64 (s9.1 - (min s6.1 volume2)), r2.2.1, r2.2.2, s9.2.2 ++ [(s9.2.1, min s6.1 volume2)])))
   (fun s10 =>
    some (.inl (s10.1, r2.2.1, r2.2.2, s10.2))))
  else (
   some (.inr (s3, s4, s5.2)))

noncomputable def keep_Src_Fill (volume : Int) (batches : Int) (s : List Int) (s2 : Int) : Option ((List (Int × Int)) × List Int × Int) :=
  (iter (fun x => keep_Src_Fill_L0 batches x.1 x.2.1 x.2.2.1 x.2.2.2) (volume, s, s2, [])).bind fun s11 =>
  some (s11.2.2, s11.1, s11.2.1)

noncomputable def fn_keep_Src_Fill : Fun :=
  { f := 16, np := 3, nr := 1,
    ji := { regs := [(0, .one (.ptr 0 0)), (1, .one (.data (.int .i64))), (2, .one (.data (.int .i64)))], vars := [(0, 66, [.data (.sl (.int .i64)), .data (.int .i64)])], arrs := [] },
    jo := { regs := [(0, .one (.data (.sl (.pair (.int .i64) (.int .i64)))))], vars := [(0, 66, [.data (.sl (.int .i64)), .data (.int .i64)])], arrs := [] },
    tw := fun x => keep_Src_Fill x.1 x.2.1 x.2.2.1 x.2.2.2 }
noncomputable def cx_keep_Src_Fill : Cx := { Γ := types, ow := [], fs := [fn_keep_Src_N, fn_keep_Src_Range], N := 92 }
theorem ok_keep_Src_Fill : FunOk Try.prog fn_keep_Src_Fill :=
  FunOk.intro (C := cx_keep_Src_Fill) (p := (.mk [] none .nil (.mk [] none .nil (.mk [] none (.mk [] none (.mk [] (some ({ regs := [(0, .one (.ptr 0 0)), (1, .one (.data (.int .i64))), (2, .one .keep), (7, .one (.own 139))], vars := [(0, 66, [.data (.sl (.int .i64)), .data (.int .i64)])], arrs := [(139, .arr 46 (.pair (.int .i64) (.int .i64)))] }, [{ e := .x 0, j := { regs := [(7, .one (.own 139))], vars := [(0, 66, [.data (.sl (.int .i64)), .data (.int .i64)])], arrs := [(139, .arr 46 (.pair (.int .i64) (.int .i64)))] } }])) (.mk [] none (.mk [] none (.mk [.join [{ e := .n, j := { regs := [(0, .one (.ptr 0 0)), (1, .one .keep), (2, .one .keep), (7, .one (.own 139)), (15, .one (.data (.bool)))], vars := [(0, 66, [.keep, .keep])], arrs := [(139, .arr 46 (.pair (.int .i64) (.int .i64)))] } }]] none .nil .nil) .nil) (.mk [] none (.mk [] none .nil (.mk [] none (.mk [] none .nil (.mk [.join [{ e := .n, j := { regs := [(0, .one (.ptr 0 0)), (1, .one .keep), (2, .one .keep), (7, .one (.own 139)), (8, .one (.ptr 144 0))], vars := [(0, 66, [.keep, .keep]), (144, 46, [.keep, .data (.int .i64)])], arrs := [(139, .arr 46 (.pair (.int .i64) (.int .i64)))] } }]] none .nil .nil)) (.mk [] none .nil (.mk [] none (.mk [] none (.mk [.join [{ e := .n, j := { regs := [(0, .one (.ptr 0 0)), (1, .one .keep), (2, .one .keep), (7, .one (.own 139)), (8, .one (.ptr 144 0)), (50, .one (.data (.bool)))], vars := [(0, 66, [.keep, .keep]), (144, 46, [.keep, .keep])], arrs := [(139, .arr 46 (.pair (.int .i64) (.int .i64)))] } }]] none .nil .nil) (.mk [.join [{ e := .n, j := { regs := [(0, .one (.ptr 0 0)), (1, .one (.data (.int .i64))), (2, .one .keep), (7, .one (.own 139)), (8, .one (.ptr 144 0))], vars := [(0, 66, [.keep, .keep]), (144, 46, [.data (.int .i64), .keep])], arrs := [(139, .arr 46 (.pair (.int .i64) (.int .i64)))] } }, { e := .x 1, j := { regs := [(0, .one (.ptr 0 0)), (1, .one (.data (.int .i64))), (2, .one .keep), (7, .one (.own 139))], vars := [(0, 66, [.keep, .keep])], arrs := [(139, .arr 46 (.pair (.int .i64) (.int .i64)))] } }]] none .nil .nil)) .nil)))) .nil)) .nil) .nil) .nil))))
    Try.func16 rfl nmr16 rfl rfl rfl rfl types_ok ⟨⟨ok_keep_Src_N, ok_keep_Src_Range, trivial⟩, trivial⟩ mx (fun x => by kernel_rfl)

noncomputable def ref14_Proper (batch : Int) : Option (Bool) :=
  bif decide (0 ≤ batch) then (
   some (decide (batch < 1000)))
  else (
   some false)

noncomputable def fn_ref14_Proper : Fun :=
  { f := 40, np := 1, nr := 1,
    ji := { regs := [(0, .one (.data (.int .i64)))], vars := [], arrs := [] },
    jo := { regs := [(0, .one (.data (.bool)))], vars := [], arrs := [] },
    tw := fun x => ref14_Proper x }
noncomputable def cx_ref14_Proper : Cx := { Γ := types, ow := [], fs := [], N := 9 }
theorem ok_ref14_Proper : FunOk Try.prog fn_ref14_Proper :=
  FunOk.intro (C := cx_ref14_Proper) (p := .nil)
    Try.func40 rfl nmr40 rfl rfl rfl rfl types_ok ⟨trivial, trivial⟩ mx (fun x => by kernel_rfl)

noncomputable def ref14_Valid_L0 (f : List (Int × Int)) (sum : Int) (v : Int) : Option ((Int × Int) ⊕ (Int ⊕ Bool)) :=
  bif decide (v < (f.length : Int)) then (
   gd (inB v f.length) <|
   Option.bind (α := Bool) (
     (ref14_Proper ((f.getD v.toNat (0, 0)).1)).bind fun r =>
     bif !r then (
      some true)
     else (
      bif decide ((f.getD v.toNat (0, 0)).2 < 1) then (
       some true)
      else (
       bif decide (1000000 < (f.getD v.toNat (0, 0)).2) then (
        some true)
       else (
        bif decide (0 < v) then (
         gd (inB (wi64 (v - 1)) f.length) <|
         some (decide ((f.getD v.toNat (0, 0)).1 = (f.getD (wi64 (v - 1)).toNat (0, 0)).1)))
        else (
         some false))))) fun s =>
   bif s then (
    some (.inr (.inr false)))
   else (
    some (.inl (wi64 (sum + ((f.getD v.toNat (0, 0)).2)), wi64 (v + 1)))))
  else (
   some (.inr (.inl sum)))

noncomputable def ref14_Valid (f : List (Int × Int)) : Option (Bool) :=
  bif decide (200 < (f.length : Int)) then (
   some false)
  else (
   (iter (fun x => ref14_Valid_L0 f x.1 x.2) (0, 0)).bind fun s2 =>
   s2.elim (fun s3 =>
    some (decide (s3 ≤ 1000000)))
   (fun s4 =>
    some s4))

noncomputable def fn_ref14_Valid : Fun :=
  { f := 42, np := 1, nr := 1,
    ji := { regs := [(0, .one (.data (.sl (.pair (.int .i64) (.int .i64)))))], vars := [], arrs := [] },
    jo := { regs := [(0, .one (.data (.bool)))], vars := [], arrs := [] },
    tw := fun x => ref14_Valid x }
noncomputable def cx_ref14_Valid : Cx := { Γ := types, ow := [], fs := [fn_ref14_Proper], N := 52 }
theorem ok_ref14_Valid : FunOk Try.prog fn_ref14_Valid :=
  FunOk.intro (C := cx_ref14_Valid) (p := (.mk [] none .nil (.mk [] none .nil (.mk [] none .nil (.mk [] none (.mk [] none .nil (.mk [] none (.mk [] (some ({ regs := [(0, .one .keep), (3, .one (.data (.int .i64))), (9, .one .keep), (10, .one .keep), (11, .one (.data (.int .i64)))], vars := [], arrs := [] }, [{ e := .x 0, j := { regs := [(3, .one (.data (.int .i64)))], vars := [], arrs := [] } }, { e := .r, j := { regs := [(2, .one (.data (.bool)))], vars := [], arrs := [] } }])) (.mk [] none .nil (.mk [] none .nil (.mk [] none (.mk [] none (.mk [] none .nil (.mk [] none (.mk [] none (.mk [.join [{ e := .n, j := { regs := [(0, .one .keep), (3, .one .keep), (5, .one (.ptr 96 0)), (9, .one .keep), (10, .one .keep), (11, .one .keep), (44, .one (.data (.bool)))], vars := [(96, 46, [.keep, .keep])], arrs := [] } }]] none .nil .nil) .nil) .nil)) .nil) .nil))) .nil) .nil)) .nil)))))
    Try.func42 rfl nmr42 rfl rfl rfl rfl types_ok ⟨⟨ok_ref14_Proper, trivial⟩, trivial⟩ mx (fun x => by kernel_rfl)

noncomputable def ref14_Sum_L0 (f : List (Int × Int)) (sum : Int) (v : Int) : Option ((Int × Int) ⊕ Int) :=
  bif decide (v < (f.length : Int)) then (
   gd (inB v f.length) <|
   some (.inl (wi64 (sum + ((f.getD v.toNat (0, 0)).2)), wi64 (v + 1))))
  else (
   some (.inr sum))

noncomputable def ref14_Sum (f : List (Int × Int)) : Option (Int) :=
  (iter (fun x => ref14_Sum_L0 f x.1 x.2) (0, 0)).bind fun s =>
  some s

noncomputable def fn_ref14_Sum : Fun :=
  { f := 55, np := 1, nr := 1,
    ji := { regs := [(0, .one (.data (.sl (.pair (.int .i64) (.int .i64)))))], vars := [], arrs := [] },
    jo := { regs := [(0, .one (.data (.int .i64)))], vars := [], arrs := [] },
    tw := fun x => ref14_Sum x }
noncomputable def cx_ref14_Sum : Cx := { Γ := types, ow := [], fs := [], N := 19 }
theorem ok_ref14_Sum : FunOk Try.prog fn_ref14_Sum :=
  FunOk.intro (C := cx_ref14_Sum) (p := (.mk [] none .nil (.mk [] none .nil (.mk [] none (.mk [] none .nil (.mk [] none (.mk [] (some ({ regs := [(0, .one .keep), (3, .one (.data (.int .i64))), (6, .one .keep), (7, .one (.data (.int .i64)))], vars := [], arrs := [] }, [{ e := .x 0, j := { regs := [(3, .one (.data (.int .i64)))], vars := [], arrs := [] } }])) .nil .nil) .nil)) .nil))))
    Try.func55 rfl nmr55 rfl rfl rfl rfl types_ok ⟨trivial, trivial⟩ mx (fun x => by kernel_rfl)

noncomputable def ref14_Joined_L0 (f : List (Int × Int)) (v : Int) (out : List (Int × Int)) : Option ((Int × List (Int × Int)) ⊕ (List (Int × Int))) :=
  bif decide (v < (f.length : Int)) then (
   gd (inB v f.length) <|
   Option.bind (α := List (Int × Int)) (
     bif decide ((f.getD v.toNat (0, 0)).2 = 0) then (
      some out)
     else (
      Option.bind (α := Bool × List (Int × Int)) (
        bif decide (0 < (out.length : Int)) then (
         gd (inB (wi64 ((out.length : Int) - 1)) out.length) <|
         some (decide ((out.getD ((wi64 ((out.length : Int) - 1)).toNat) (0, 0)).1 = (f.getD v.toNat (0, 0)).1), out))
        else (
         some (false, out))) fun s =>
      Option.bind (α := List (Int × Int)) (
        bif s.1 then (
         gd (inB (wi64 ((s.2.length : Int) - 1)) s.2.length) <|
         gd (inB (wi64 ((s.2.length : Int) - 1)) s.2.length) <|
         some (s.2.set ((wi64 ((s.2.length : Int) - 1)).toNat) ((s.2.getD ((wi64 ((s.2.length : Int) - 1)).toNat) (0, 0)).1, wi64 (((s.2.getD ((wi64 ((s.2.length : Int) - 1)).toNat) (0, 0)).2) + ((f.getD v.toNat (0, 0)).2)))))
        else (
         gd (fits (s.2.length + 1) 16) <|
         some (s.2 ++ [((f.getD v.toNat (0, 0)).1, (f.getD v.toNat (0, 0)).2)]))) fun s2 =>
      some s2)) fun s3 =>
   some (.inl (wi64 (v + 1), s3)))
  else (
   some (.inr out))

noncomputable def ref14_Joined (f : List (Int × Int)) : Option (List (Int × Int)) :=
  (iter (fun x => ref14_Joined_L0 f x.1 x.2) (0, [])).bind fun s4 =>
  some s4

noncomputable def fn_ref14_Joined : Fun :=
  { f := 36, np := 1, nr := 1,
    ji := { regs := [(0, .one (.data (.sl (.pair (.int .i64) (.int .i64)))))], vars := [], arrs := [] },
    jo := { regs := [(0, .one (.own 0))], vars := [], arrs := [(0, .arr 46 (.pair (.int .i64) (.int .i64)))] },
    tw := fun x => ref14_Joined x }
noncomputable def cx_ref14_Joined : Cx := { Γ := types, ow := [], fs := [], N := 50 }
theorem ok_ref14_Joined : FunOk Try.prog fn_ref14_Joined :=
  FunOk.intro (C := cx_ref14_Joined) (p := (.mk [] none .nil (.mk [] none .nil (.mk [] none (.mk [] none .nil (.mk [] none (.mk [] (some ({ regs := [(3, .one (.own 75)), (6, .one .keep), (7, .one .keep), (8, .one (.data (.int .i64)))], vars := [], arrs := [(75, .arr 46 (.pair (.int .i64) (.int .i64)))] }, [{ e := .x 0, j := { regs := [(3, .one (.own 75))], vars := [], arrs := [(75, .arr 46 (.pair (.int .i64) (.int .i64)))] } }])) (.mk [] none .nil (.mk [] none .nil (.mk [] none (.mk [] none (.mk [] none .nil (.mk [] none (.mk [] none .nil (.mk [.join [{ e := .n, j := { regs := [(3, .one (.own 75)), (6, .one .keep), (7, .one .keep), (8, .one .keep)], vars := [], arrs := [(75, .arr 46 (.pair (.int .i64) (.int .i64)))] } }]] none .nil (.mk [] none (.mk [.join [{ e := .n, j := { regs := [(3, .one (.own 75)), (5, .one (.ptr 96 0)), (6, .one .keep), (7, .one .keep), (8, .one .keep), (20, .one (.data (.bool)))], vars := [(96, 46, [.keep, .keep])], arrs := [(75, .arr 46 (.pair (.int .i64) (.int .i64)))] } }]] none .nil .nil) (.mk [.join [{ e := .n, j := { regs := [(3, .one (.own 75)), (6, .one .keep), (7, .one .keep), (8, .one .keep)], vars := [], arrs := [(75, .arr 46 (.pair (.int .i64) (.int .i64)))] } }]] none .nil .nil)))) .nil)) .nil) .nil))) .nil) .nil)) .nil))))
    Try.func36 rfl nmr36 rfl rfl rfl rfl types_ok ⟨trivial, trivial⟩ mx (fun x => by kernel_rfl)

noncomputable def ref14_Split_L0 (f : List (Int × Int)) (litres2 : Int) (v : Int) (a : List (Int × Int)) (b : List (Int × Int)) : Option ((Int × Int × (List (Int × Int)) × List (Int × Int)) ⊕ ((List (Int × Int)) × List (Int × Int))) :=
  bif decide (v < (f.length : Int)) then (
   gd (inB v f.length) <|
   gd (fits (a.length + 1) 16) <|
   gd (fits (b.length + 1) 16) <|
   some (.inl (wi64 (litres2 - (min litres2 ((f.getD v.toNat (0, 0)).2))), wi64 (v + 1), a ++ [((f.getD v.toNat (0, 0)).1, min litres2 ((f.getD v.toNat (0, 0)).2))], b ++ [((f.getD v.toNat (0, 0)).1, wi64 (((f.getD v.toNat (0, 0)).2) - (min litres2 ((f.getD v.toNat (0, 0)).2))))])))
  else (
   some (.inr (a, b)))

noncomputable def ref14_Split (f : List (Int × Int)) (litres : Int) : Option ((List (Int × Int)) × List (Int × Int)) :=
  (iter (fun x => ref14_Split_L0 f x.1 x.2.1 x.2.2.1 x.2.2.2) (litres, 0, [], [])).bind fun s =>
  (ref14_Joined s.1).bind fun r =>
  (ref14_Joined s.2).bind fun r2 =>
  some (r, r2)

noncomputable def fn_ref14_Split : Fun :=
  { f := 54, np := 2, nr := 2,
    ji := { regs := [(0, .one (.data (.sl (.pair (.int .i64) (.int .i64))))), (1, .one (.data (.int .i64)))], vars := [], arrs := [] },
    jo := { regs := [(0, .one (.own 0)), (1, .one (.own 1))], vars := [], arrs := [(0, .arr 46 (.pair (.int .i64) (.int .i64))), (1, .arr 46 (.pair (.int .i64) (.int .i64)))] },
    tw := fun x => ref14_Split x.1 x.2 }
noncomputable def cx_ref14_Split : Cx := { Γ := types, ow := [], fs := [fn_ref14_Joined], N := 46 }
theorem ok_ref14_Split : FunOk Try.prog fn_ref14_Split :=
  FunOk.intro (C := cx_ref14_Split) (p := (.mk [] none .nil (.mk [] none .nil (.mk [] none (.mk [] none .nil (.mk [] none (.mk [] (some ({ regs := [(1, .one (.data (.int .i64))), (6, .one (.own 123)), (7, .one (.own 139)), (11, .one .keep), (12, .one .keep), (13, .one (.data (.int .i64)))], vars := [], arrs := [(123, .arr 46 (.pair (.int .i64) (.int .i64))), (139, .arr 46 (.pair (.int .i64) (.int .i64)))] }, [{ e := .x 0, j := { regs := [(6, .one (.own 123)), (7, .one (.own 139))], vars := [], arrs := [(123, .arr 46 (.pair (.int .i64) (.int .i64))), (139, .arr 46 (.pair (.int .i64) (.int .i64)))] } }])) .nil .nil) .nil)) (.mk [] none (.mk [.fz [6, 7]] none .nil .nil) .nil)))))
    Try.func54 rfl nmr54 rfl rfl rfl rfl types_ok ⟨⟨ok_ref14_Joined, trivial⟩, trivial⟩ mx (fun x => by kernel_rfl)

noncomputable def ref14_Shift (f : List (Int × Int)) (vin : List (Int × Int)) (back : Bool) : Option ((List (Int × Int)) × List (Int × Int)) :=
  bif back then (
   gd (fits (0 + f.length) 16) <|
   gd (fits (([] ++ f).length + vin.length) 16) <|
   (ref14_Sum vin).bind fun r =>
   (ref14_Split (([] ++ f) ++ vin) r).bind fun r2 =>
   some (r2.2, r2.1))
  else (
   gd (fits (0 + vin.length) 16) <|
   gd (fits (([] ++ vin).length + f.length) 16) <|
   (ref14_Sum f).bind fun r3 =>
   (ref14_Split (([] ++ vin) ++ f) r3).bind fun r4 =>
   some (r4.1, r4.2))

noncomputable def fn_ref14_Shift : Fun :=
  { f := 39, np := 3, nr := 2,
    ji := { regs := [(0, .one (.data (.sl (.pair (.int .i64) (.int .i64))))), (1, .one (.data (.sl (.pair (.int .i64) (.int .i64))))), (2, .one (.data (.bool)))], vars := [], arrs := [] },
    jo := { regs := [(0, .one (.own 0)), (1, .one (.own 1))], vars := [], arrs := [(0, .arr 46 (.pair (.int .i64) (.int .i64))), (1, .arr 46 (.pair (.int .i64) (.int .i64)))] },
    tw := fun x => ref14_Shift x.1 x.2.1 x.2.2 }
noncomputable def cx_ref14_Shift : Cx := { Γ := types, ow := [12, 24], fs := [fn_ref14_Sum, fn_ref14_Split], N := 34 }
theorem ok_ref14_Shift : FunOk Try.prog fn_ref14_Shift :=
  FunOk.intro (C := cx_ref14_Shift) (p := .nil)
    Try.func39 rfl nmr39 rfl rfl rfl rfl types_ok ⟨⟨ok_ref14_Sum, ok_ref14_Split, trivial⟩, trivial⟩ mx (fun x => by kernel_rfl)

noncomputable def ref14_Push (f : List (Int × Int)) (vin : List (Int × Int)) (back : Bool) : Option (Int × (List (Int × Int)) × List (Int × Int)) :=
  Option.bind (α := Bool) (
    (ref14_Valid f).bind fun r =>
    bif !r then (
     some true)
    else (
     (ref14_Valid vin).bind fun r2 =>
     some (!r2))) fun s =>
  bif s then (
   some (9, [], []))
  else (
   (ref14_Shift f vin back).bind fun r3 =>
   Option.bind (α := Bool × (List (Int × Int)) × List (Int × Int)) (
     bif decide (200 < (r3.1.length : Int)) then (
      some (true, r3.1, r3.2))
     else (
      some (decide (200 < (r3.2.length : Int)), r3.1, r3.2))) fun s2 =>
   bif s2.1 then (
    some (4, [], []))
   else (
    some (0, s2.2.1, s2.2.2)))

noncomputable def fn_ref14_Push : Fun :=
  { f := 18, np := 3, nr := 3,
    ji := { regs := [(0, .one (.data (.sl (.pair (.int .i64) (.int .i64))))), (1, .one (.data (.sl (.pair (.int .i64) (.int .i64))))), (2, .one (.data (.bool)))], vars := [], arrs := [] },
    jo := { regs := [(0, .one (.own 0)), (1, .one (.own 1)), (2, .one (.data (.int .i64)))], vars := [], arrs := [(0, .arr 46 (.pair (.int .i64) (.int .i64))), (1, .arr 46 (.pair (.int .i64) (.int .i64)))] },
    tw := fun x => ref14_Push x.1 x.2.1 x.2.2 }
noncomputable def cx_ref14_Push : Cx := { Γ := types, ow := [], fs := [fn_ref14_Valid, fn_ref14_Shift], N := 36 }
theorem ok_ref14_Push : FunOk Try.prog fn_ref14_Push :=
  FunOk.intro (C := cx_ref14_Push) (p := (.mk [] none .nil (.mk [] none (.mk [] none (.mk [.join [{ e := .n, j := { regs := [(0, .one .keep), (1, .one .keep), (2, .one .keep), (18, .one (.data (.bool)))], vars := [], arrs := [] } }]] none .nil .nil) .nil) (.mk [] none .nil (.mk [] none (.mk [] none (.mk [.join [{ e := .n, j := { regs := [(9, .one (.own 384)), (10, .one (.own 385)), (33, .one (.data (.bool)))], vars := [], arrs := [(384, .arr 46 (.pair (.int .i64) (.int .i64))), (385, .arr 46 (.pair (.int .i64) (.int .i64)))] } }]] none .nil .nil) .nil) .nil)))))
    Try.func18 rfl nmr18 rfl rfl rfl rfl types_ok ⟨⟨ok_ref14_Valid, ok_ref14_Shift, trivial⟩, trivial⟩ mx (fun x => by kernel_rfl)

noncomputable def ref14_Merge_L0 (f : List (Int × Int)) (v : Int) : Option (Int ⊕ (Unit ⊕ (List (Int × Int)))) :=
  bif decide (v < (f.length : Int)) then (
   gd (inB v f.length) <|
   Option.bind (α := Bool) (
     (ref14_Proper ((f.getD v.toNat (0, 0)).1)).bind fun r =>
     bif !r then (
      some true)
     else (
      bif decide ((f.getD v.toNat (0, 0)).2 < 0) then (
       some true)
      else (
       some (decide (1000000 < (f.getD v.toNat (0, 0)).2))))) fun s =>
   bif s then (
    some (.inr (.inr [])))
   else (
    some (.inl (wi64 (v + 1)))))
  else (
   some (.inr (.inl ())))

noncomputable def ref14_Merge (f : List (Int × Int)) : Option (List (Int × Int)) :=
  bif decide (400 < (f.length : Int)) then (
   some [])
  else (
   (iter (fun x => ref14_Merge_L0 f x) 0).bind fun s2 =>
   s2.elim (fun s3 =>
    (ref14_Joined f).bind fun r2 =>
    some r2)
   (fun s4 =>
    some s4))

noncomputable def fn_ref14_Merge : Fun :=
  { f := 14, np := 1, nr := 1,
    ji := { regs := [(0, .one (.data (.sl (.pair (.int .i64) (.int .i64)))))], vars := [], arrs := [] },
    jo := { regs := [(0, .one (.data (.sl (.pair (.int .i64) (.int .i64)))))], vars := [], arrs := [] },
    tw := fun x => ref14_Merge x }
noncomputable def cx_ref14_Merge : Cx := { Γ := types, ow := [], fs := [fn_ref14_Proper, fn_ref14_Joined], N := 31 }
theorem ok_ref14_Merge : FunOk Try.prog fn_ref14_Merge :=
  FunOk.intro (C := cx_ref14_Merge) (p := (.mk [] none .nil (.mk [] none .nil (.mk [] none (.mk [] none .nil (.mk [] none (.mk [] (some ({ regs := [(0, .one .keep), (8, .one .keep), (9, .one .keep), (10, .one (.data (.int .i64)))], vars := [], arrs := [] }, [{ e := .x 0, j := { regs := [(0, .one .keep)], vars := [], arrs := [] } }, { e := .r, j := { regs := [(2, .one (.data (.sl (.pair (.int .i64) (.int .i64)))))], vars := [], arrs := [] } }])) (.mk [] none .nil (.mk [] none .nil (.mk [] none (.mk [] none (.mk [] none .nil (.mk [] none (.mk [.join [{ e := .n, j := { regs := [(0, .one .keep), (8, .one .keep), (9, .one .keep), (10, .one .keep), (27, .one (.data (.bool)))], vars := [], arrs := [] } }]] none .nil .nil) .nil)) .nil) .nil))) .nil) .nil)) .nil))))
    Try.func14 rfl nmr14 rfl rfl rfl rfl types_ok ⟨⟨ok_ref14_Proper, ok_ref14_Joined, trivial⟩, trivial⟩ mx (fun x => by kernel_rfl)

noncomputable def law45_AuditParts (l : List Int) (back : Bool) : Option (Bool) :=
  (second_Few l).bind fun r =>
  bif !r then (
   (law45_awake).bind fun r2 =>
   some r2)
  else (
   (keep_New l).bind fun r3 =>
   (keep_Src_Range 20 200 r3.1 r3.2).bind fun r4 =>
   (keep_Src_Fill r4.1 4 r4.2.1 r4.2.2).bind fun r5 =>
   (keep_Src_Range 1 15 r5.2.1 r5.2.2).bind fun r6 =>
   (keep_Src_Fill r6.1 4 r6.2.1 r6.2.2).bind fun r7 =>
   (keep_Src_Range 1 15 r7.2.1 r7.2.2).bind fun r8 =>
   (keep_Src_Fill r8.1 4 r8.2.1 r8.2.2).bind fun r9 =>
   (ref14_Push r5.1 r7.1 back).bind fun r10 =>
   (ref14_Push r10.2.1 r9.1 back).bind fun r11 =>
   Option.bind (α := Bool × (List (Int × Int)) × (List (Int × Int)) × List (Int × Int)) (
     bif !decide (r10.1 = 0) then (
      some (true, r10.2.2, r11.2.1, r11.2.2))
     else (
      some ((!decide (r11.1 = 0)), r10.2.2, r11.2.1, r11.2.2))) fun s =>
   bif s.1 then (
    (law45_awake).bind fun r12 =>
    some r12)
   else (
    (audit_Order r5.1 r10.2.1 r7.1 s.2.1 back).bind fun r13 =>
    (audit_Order r10.2.1 s.2.2.1 r9.1 s.2.2.2 back).bind fun r14 =>
    gd (fits (0 + r9.1.length) 16) <|
    gd (fits (([] ++ r9.1).length + r7.1.length) 16) <|
    (ref14_Merge (([] ++ r9.1) ++ r7.1)).bind fun r15 =>
    gd (fits (0 + s.2.2.2.length) 16) <|
    gd (fits (([] ++ s.2.2.2).length + s.2.1.length) 16) <|
    (ref14_Merge (([] ++ s.2.2.2) ++ s.2.1)).bind fun r16 =>
    Option.bind (α := (List (Int × Int)) × (List (Int × Int)) × (List (Int × Int)) × List (Int × Int)) (
      bif back then (
       gd (fits (0 + r7.1.length) 16) <|
       gd (fits (([] ++ r7.1).length + r9.1.length) 16) <|
       (ref14_Merge (([] ++ r7.1) ++ r9.1)).bind fun r17 =>
       gd (fits (0 + s.2.1.length) 16) <|
       gd (fits (([] ++ s.2.1).length + s.2.2.2.length) 16) <|
       (ref14_Merge (([] ++ s.2.1) ++ s.2.2.2)).bind fun r18 =>
       some (r17, r18, s.2.1, s.2.2.1))
      else (
       some (r15, r16, s.2.1, s.2.2.1))) fun s2 =>
    (audit_Order r5.1 s2.2.2.2 s2.1 s2.2.1 back).bind fun r19 =>
    (audit_Order r10.2.1 r5.1 s2.2.2.1 r7.1 (!back)).bind fun r20 =>
    bif decide (r13.2 = 0) then (
     bif decide (r14.2 = 0) then (
      bif decide (r19.2 = 0) then (
       bif decide (r20.2 = 0) then (
        bif r13.1 then (
         bif r14.1 then (
          bif r19.1 then (
           bif r20.1 then (
            (law45_awake).bind fun r21 =>
            some r21)
           else (
            some false))
          else (
           some false))
         else (
          some false))
        else (
         some false))
       else (
        some false))
      else (
       some false))
     else (
      some false))
    else (
     some false)))

noncomputable def fn_law45_AuditParts : Fun :=
  { f := 4, np := 2, nr := 1,
    ji := { regs := [(0, .one (.data (.sl (.int .i64)))), (1, .one (.data (.bool)))], vars := [], arrs := [] },
    jo := { regs := [(0, .one (.data (.bool)))], vars := [], arrs := [] },
    tw := fun x => law45_AuditParts x.1 x.2 }
noncomputable def cx_law45_AuditParts : Cx := { Γ := types, ow := [84, 90, 97, 103], fs := [fn_second_Few, fn_law45_awake, fn_keep_New, fn_keep_Src_Range, fn_keep_Src_Fill, fn_ref14_Push, fn_audit_Order, fn_ref14_Merge], N := 157 }
theorem ok_law45_AuditParts : FunOk Try.prog fn_law45_AuditParts :=
  FunOk.intro (C := cx_law45_AuditParts) (p := (.mk [] none .nil (.mk [] none .nil (.mk [] none .nil (.mk [] none .nil (.mk [] none .nil (.mk [] none .nil (.mk [] none (.mk [.fz [9]] none .nil .nil) (.mk [] none (.mk [] none (.mk [.join [{ e := .n, j := { regs := [(1, .one .keep), (6, .one .keep), (7, .one .keep), (8, .one .keep), (9, .one .keep), (10, .one (.own 769)), (12, .one (.own 896)), (13, .one (.own 897)), (64, .one (.data (.bool)))], vars := [], arrs := [(769, .arr 46 (.pair (.int .i64) (.int .i64))), (896, .arr 46 (.pair (.int .i64) (.int .i64))), (897, .arr 46 (.pair (.int .i64) (.int .i64)))] } }]] none .nil .nil) .nil) (.mk [] none .nil (.mk [] none .nil (.mk [] none .nil (.mk [] none .nil (.mk [] none (.mk [] none .nil (.mk [.join [{ e := .n, j := { regs := [(1, .one .keep), (6, .one .keep), (7, .one .keep), (9, .one .keep), (10, .one (.own 769)), (12, .one (.own 896)), (15, .one .keep), (16, .one .keep), (17, .one .keep), (18, .one .keep), (19, .one (.data (.sl (.pair (.int .i64) (.int .i64))))), (20, .one (.data (.sl (.pair (.int .i64) (.int .i64)))))], vars := [], arrs := [(769, .arr 46 (.pair (.int .i64) (.int .i64))), (896, .arr 46 (.pair (.int .i64) (.int .i64)))] } }]] none .nil .nil)) .nil))))))))))))))
    Try.func4 rfl nmr4 rfl rfl rfl rfl types_ok ⟨⟨ok_second_Few, ok_law45_awake, ok_keep_New, ok_keep_Src_Range, ok_keep_Src_Fill, ok_ref14_Push, ok_audit_Order, ok_ref14_Merge, trivial⟩, trivial⟩ mx (fun x => by kernel_rfl)

noncomputable def keep_Src_Pick (l : List Int) (s : List Int) (s2 : Int) : Option (Int × List Int × Int) :=
  (keep_Src_N (l.length : Int) s s2).bind fun r =>
  gd (inB r.1 l.length) <|
  some (l.getD r.1.toNat 0, r.2.1, r.2.2)

noncomputable def fn_keep_Src_Pick : Fun :=
  { f := 27, np := 2, nr := 1,
    ji := { regs := [(0, .one (.ptr 0 0)), (1, .one (.data (.sl (.int .i64))))], vars := [(0, 66, [.data (.sl (.int .i64)), .data (.int .i64)])], arrs := [] },
    jo := { regs := [(0, .one (.data (.int .i64)))], vars := [(0, 66, [.data (.sl (.int .i64)), .data (.int .i64)])], arrs := [] },
    tw := fun x => keep_Src_Pick x.1 x.2.1 x.2.2 }
noncomputable def cx_keep_Src_Pick : Cx := { Γ := types, ow := [], fs := [fn_keep_Src_N], N := 12 }
theorem ok_keep_Src_Pick : FunOk Try.prog fn_keep_Src_Pick :=
  FunOk.intro (C := cx_keep_Src_Pick) (p := .nil)
    Try.func27 rfl nmr27 rfl rfl rfl rfl types_ok ⟨⟨ok_keep_Src_N, trivial⟩, trivial⟩ mx (fun x => by kernel_rfl)

noncomputable def keep_name (first : List UInt8) (n : Int) : Option (List UInt8) :=
  gd (Nat.ble (first.length + (toBytes [wu8 (wi64 (97 + (Int.tmod n 26)))]).length) 9223372036854775807) <|
  some (first ++ (toBytes [wu8 (wi64 (97 + (Int.tmod n 26)))]))

noncomputable def fn_keep_name : Fun :=
  { f := 28, np := 2, nr := 1,
    ji := { regs := [(0, .one (.data (.str))), (1, .one (.data (.int .i64)))], vars := [], arrs := [] },
    jo := { regs := [(0, .one (.data (.str)))], vars := [], arrs := [] },
    tw := fun x => keep_name x.1 x.2 }
noncomputable def cx_keep_name : Cx := { Γ := types, ow := [], fs := [], N := 13 }
theorem ok_keep_name : FunOk Try.prog fn_keep_name :=
  FunOk.intro (C := cx_keep_name) (p := .nil)
    Try.func28 rfl nmr28 rfl rfl rfl rfl types_ok ⟨trivial, trivial⟩ mx (fun x => by kernel_rfl)

noncomputable def keep_Src_Segment_L0 (r3 : Int × List Int × Int) (r6 : Int × List Int × Int) (vat : Int) (s4 : List Int) (s5 : Int) (x : List (Int × Int × Int)) : Option ((Int × List Int × Int × List (Int × Int × Int)) ⊕ (List Int × Int × List (Int × Int × Int))) :=
  Option.bind (α := Bool × List Int × Int × List (Int × Int × Int)) (
    bif decide ((x.length : Int) < 7) then (
     (keep_Src_N 3 s4 s5).bind fun r8 =>
     some (decide (0 < r8.1), r8.2.1, r8.2.2, x))
    else (
     some (false, s4, s5, x))) fun s6 =>
  bif s6.1 then (
   (keep_Src_Range 1 40 s6.2.1 s6.2.2.1).bind fun r9 =>
   bif decide (r3.1 ≤ wi64 (vat + r9.1)) then (
    some (.inr (r9.2.1, r9.2.2, s6.2.2.2)))
   else (
    (keep_Src_Range (-5) 60 r9.2.1 r9.2.2).bind fun r10 =>
    (keep_Src_Pick [1, 1, 10] r10.2.1 r10.2.2).bind fun r11 =>
    (keep_Src_N 3 r11.2.1 r11.2.2).bind fun r12 =>
    gd (fits (s6.2.2.2.length + 1) 24) <|
    some (.inl (wi64 (vat + r9.1), r12.2.1, r12.2.2, s6.2.2.2 ++ [(wi64 (vat + r9.1), (wi64 (r10.1 * r11.1), wi64 (r6.1 - (wi64 (r12.1 * 1000)))))]))))
  else (
   some (.inr (s6.2.1, s6.2.2.1, s6.2.2.2)))

noncomputable def keep_Src_Segment (k : Int) (vfrom : Int) (to : Int) (s : List Int) (s2 : Int) : Option ((List UInt8 × Int × Int × Int × Int × Int × List (Int × Int × Int)) × List Int × Int) :=
  (keep_Src_N 4 s s2).bind fun r =>
  Option.bind (α := Int × Int) (
    bif decide (r.1 = 0) then (
     some (to, vfrom))
    else (
     some (vfrom, to))) fun s3 =>
  (keep_name [103] k).bind fun r2 =>
  (keep_Src_Pick [1, 2, 7, 20, 60, 200, 1000] r.2.1 r.2.2).bind fun r3 =>
  (keep_Src_Pick [0, 1, 5, 1000] r3.2.1 r3.2.2).bind fun r4 =>
  (keep_Src_Pick [0, 50, 1000, 100000] r4.2.1 r4.2.2).bind fun r5 =>
  (keep_Src_Pick [1000000, 6000000, 100000000] r5.2.1 r5.2.2).bind fun r6 =>
  (keep_Src_Range (-5) 30 r6.2.1 r6.2.2).bind fun r7 =>
  (iter (fun x2 => keep_Src_Segment_L0 r3 r6 x2.1 x2.2.1 x2.2.2.1 x2.2.2.2) (0, r7.2.1, r7.2.2, [(0, (r7.1, r6.1))])).bind fun s7 =>
  (keep_Src_Range (-5) 30 s7.1 s7.2.1).bind fun r13 =>
  gd (fits (s7.2.2.length + 1) 24) <|
  some ((r2, (s3.1, (s3.2, (r3.1, (r4.1, (r5.1, s7.2.2 ++ [(r3.1, (r13.1, r6.1))])))))), r13.2.1, r13.2.2)

noncomputable def fn_keep_Src_Segment : Fun :=
  { f := 29, np := 4, nr := 1,
    ji := { regs := [(0, .one (.ptr 0 0)), (1, .one (.data (.int .i64))), (2, .one (.data (.int .i64))), (3, .one (.data (.int .i64)))], vars := [(0, 66, [.data (.sl (.int .i64)), .data (.int .i64)])], arrs := [] },
    jo := { regs := [(0, .one (.data (.pair (.str) (.pair (.int .i64) (.pair (.int .i64) (.pair (.int .i64) (.pair (.int .i64) (.pair (.int .i64) (.sl (.pair (.int .i64) (.pair (.int .i64) (.int .i64))))))))))))], vars := [(0, 66, [.data (.sl (.int .i64)), .data (.int .i64)])], arrs := [] },
    tw := fun x => keep_Src_Segment x.1 x.2.1 x.2.2.1 x.2.2.2.1 x.2.2.2.2 }
noncomputable def cx_keep_Src_Segment : Cx := { Γ := types, ow := [], fs := [fn_keep_Src_N, fn_keep_name, fn_keep_Src_Pick, fn_keep_Src_Range], N := 90 }
theorem ok_keep_Src_Segment : FunOk Try.prog fn_keep_Src_Segment :=
  FunOk.intro (C := cx_keep_Src_Segment) (p := (.mk [] none .nil (.mk [] none (.mk [] none .nil (.mk [.join [{ e := .n, j := { regs := [(0, .one (.ptr 0 0)), (1, .one .keep), (2, .one (.data (.int .i64))), (3, .one (.data (.int .i64))), (8, .one (.ptr 144 0))], vars := [(0, 66, [.keep, .keep]), (144, 60, [.keep, .keep, .keep, .keep, .keep, .keep, .keep])], arrs := [] } }]] none .nil .nil)) (.mk [] none .nil (.mk [] none .nil (.mk [] none .nil (.mk [] none (.mk [] none .nil (.mk [] none (.mk [] (some ({ regs := [(0, .one (.ptr 0 0)), (8, .one (.ptr 144 0)), (9, .one (.ptr 160 0)), (10, .one .keep), (11, .one (.data (.int .i64)))], vars := [(0, 66, [.data (.sl (.int .i64)), .data (.int .i64)]), (144, 60, [.keep, .keep, .keep, .keep, .keep, .keep, .keep]), (160, 60, [.keep, .keep, .keep, .keep, .keep, .keep, .own 2681])], arrs := [(2681, .arr 94 (.pair (.int .i64) (.pair (.int .i64) (.int .i64))))] }, [{ e := .x 0, j := { regs := [(0, .one (.ptr 0 0)), (8, .one (.ptr 144 0)), (9, .one (.ptr 160 0)), (10, .one .keep)], vars := [(0, 66, [.data (.sl (.int .i64)), .data (.int .i64)]), (144, 60, [.keep, .keep, .keep, .keep, .keep, .keep, .keep]), (160, 60, [.keep, .keep, .keep, .keep, .keep, .keep, .own 2681])], arrs := [(2681, .arr 94 (.pair (.int .i64) (.pair (.int .i64) (.int .i64))))] } }])) (.mk [] none (.mk [] none (.mk [.join [{ e := .n, j := { regs := [(0, .one (.ptr 0 0)), (8, .one (.ptr 144 0)), (9, .one (.ptr 160 0)), (10, .one .keep), (11, .one .keep), (51, .one (.data (.bool)))], vars := [(0, 66, [.data (.sl (.int .i64)), .data (.int .i64)]), (144, 60, [.keep, .keep, .keep, .keep, .keep, .keep, .keep]), (160, 60, [.keep, .keep, .keep, .keep, .keep, .keep, .own 2681])], arrs := [(2681, .arr 94 (.pair (.int .i64) (.pair (.int .i64) (.int .i64))))] } }]] none .nil .nil) .nil) .nil) .nil) .nil)) .nil)))))))
    Try.func29 rfl nmr29 rfl rfl rfl rfl types_ok ⟨⟨ok_keep_Src_N, ok_keep_name, ok_keep_Src_Pick, ok_keep_Src_Range, trivial⟩, trivial⟩ mx (fun x => by kernel_rfl)

noncomputable def keep_Src_Network_L0 (i : Int) (n : List (List UInt8)) : Option ((Int × List (List UInt8)) ⊕ (List (List UInt8))) :=
  bif decide (0 < i) then (
   (keep_name [110] (n.length : Int)).bind fun r4 =>
   gd (fits (n.length + 1) 16) <|
   some (.inl (wi64 (i - 1), n ++ [r4])))
  else (
   some (.inr n))

noncomputable def keep_Src_Network_L1 (s3 : List (List UInt8)) (i2 : Int) (s4 : List Int) (s5 : Int) (n2 : List (List UInt8)) (n3 : List (List UInt8 × Int × Int × Int × Int × Int × List (Int × Int × Int))) : Option ((Int × List Int × Int × List (List UInt8) × List (List UInt8 × Int × Int × Int × Int × Int × List (Int × Int × Int))) ⊕ (List Int × Int × List (List UInt8) × List (List UInt8 × Int × Int × Int × Int × Int × List (Int × Int × Int)))) :=
  bif decide (i2 < wi64 ((s3.length : Int) - 1)) then (
   (keep_Src_Segment (n3.length : Int) i2 (wi64 (i2 + 1)) s4 s5).bind fun r5 =>
   gd (fits (n3.length + 1) 80) <|
   some (.inl (wi64 (i2 + 1), r5.2.1, r5.2.2, n2, n3 ++ [(r5.1.1, (r5.1.2.1, (r5.1.2.2.1, (r5.1.2.2.2.1, (r5.1.2.2.2.2.1, (r5.1.2.2.2.2.2.1, r5.1.2.2.2.2.2.2))))))])))
  else (
   some (.inr (s4, s5, n2, n3)))

noncomputable def keep_Src_Network_L2 (s3 : List (List UInt8)) (i3 : Int) (s7 : List Int) (s8 : Int) (n4 : List (List UInt8)) (n5 : List (List UInt8 × Int × Int × Int × Int × Int × List (Int × Int × Int))) : Option ((Int × List Int × Int × List (List UInt8) × List (List UInt8 × Int × Int × Int × Int × Int × List (Int × Int × Int))) ⊕ (List Int × Int × List (List UInt8) × List (List UInt8 × Int × Int × Int × Int × Int × List (Int × Int × Int)))) :=
  bif decide (0 < i3) then (
   (keep_Src_N (wi64 ((s3.length : Int) - 1)) s7 s8).bind fun r7 =>
   (keep_Src_Range (wi64 (r7.1 + 1)) (wi64 ((s3.length : Int) - 1)) r7.2.1 r7.2.2).bind fun r8 =>
   (keep_Src_Segment (n5.length : Int) r7.1 r8.1 r8.2.1 r8.2.2).bind fun r9 =>
   gd (fits (n5.length + 1) 80) <|
   some (.inl (wi64 (i3 - 1), r9.2.1, r9.2.2, n4, n5 ++ [(r9.1.1, (r9.1.2.1, (r9.1.2.2.1, (r9.1.2.2.2.1, (r9.1.2.2.2.2.1, (r9.1.2.2.2.2.2.1, r9.1.2.2.2.2.2.2))))))])))
  else (
   some (.inr (s7, s8, n4, n5)))

noncomputable def keep_Src_Network_L3 (s3 : List (List UInt8)) (i4 : Int) (s10 : List Int) (s11 : Int) (n6 : List (List UInt8)) (n7 : List (List UInt8 × Int × Int × Int × Int × Int × List (Int × Int × Int))) (n8 : List (List UInt8 × Int × Int)) (n9 : List (List UInt8 × Int × Int × Int × Int)) : Option ((Int × List Int × Int × List (List UInt8) × (List (List UInt8 × Int × Int × Int × Int × Int × List (Int × Int × Int))) × (List (List UInt8 × Int × Int)) × List (List UInt8 × Int × Int × Int × Int)) ⊕ (List Int × Int × List (List UInt8) × (List (List UInt8 × Int × Int × Int × Int × Int × List (Int × Int × Int))) × (List (List UInt8 × Int × Int)) × List (List UInt8 × Int × Int × Int × Int))) :=
  bif decide (i4 ≤ wi64 ((s3.length : Int) - 1)) then (
   Option.bind (α := Bool × List Int × Int × List (List UInt8) × (List (List UInt8 × Int × Int × Int × Int × Int × List (Int × Int × Int))) × (List (List UInt8 × Int × Int)) × List (List UInt8 × Int × Int × Int × Int)) (
     bif decide (i4 = 0) then (
      some (true, s10, s11, n6, n7, n8, n9))
     else (
      bif decide (i4 = wi64 ((s3.length : Int) - 1)) then (
       some (true, s10, s11, n6, n7, n8, n9))
      else (
       (keep_Src_N 2 s10 s11).bind fun r10 =>
       some (decide (r10.1 = 0), r10.2.1, r10.2.2, n6, n7, n8, n9)))) fun s12 =>
   Option.bind (α := List Int × Int × List (List UInt8) × (List (List UInt8 × Int × Int × Int × Int × Int × List (Int × Int × Int))) × (List (List UInt8 × Int × Int)) × List (List UInt8 × Int × Int × Int × Int)) (
     bif s12.1 then (
      (keep_name [113] (s12.2.2.2.2.2.1.length : Int)).bind fun r11 =>
      (keep_Src_Pick [300000, 1000000, 0, 5000000] s12.2.1 s12.2.2.1).bind fun r12 =>
      gd (fits (s12.2.2.2.2.2.1.length + 1) 32) <|
      some (r12.2.1, r12.2.2, s12.2.2.2.1, s12.2.2.2.2.1, s12.2.2.2.2.2.1 ++ [(r11, (i4, r12.1))], s12.2.2.2.2.2.2))
     else (
      some (s12.2.1, s12.2.2.1, s12.2.2.2.1, s12.2.2.2.2.1, s12.2.2.2.2.2.1, s12.2.2.2.2.2.2))) fun s13 =>
   Option.bind (α := Bool × List Int × Int × List (List UInt8) × (List (List UInt8 × Int × Int × Int × Int × Int × List (Int × Int × Int))) × (List (List UInt8 × Int × Int)) × List (List UInt8 × Int × Int × Int × Int)) (
     bif decide (i4 < wi64 ((s3.length : Int) - 1)) then (
      (keep_Src_N 3 s13.1 s13.2.1).bind fun r13 =>
      some (decide (r13.1 = 0), r13.2.1, r13.2.2, s13.2.2.1, s13.2.2.2.1, s13.2.2.2.2.1, s13.2.2.2.2.2))
     else (
      some (false, s13.1, s13.2.1, s13.2.2.1, s13.2.2.2.1, s13.2.2.2.2.1, s13.2.2.2.2.2))) fun s14 =>
   Option.bind (α := List Int × Int × List (List UInt8) × (List (List UInt8 × Int × Int × Int × Int × Int × List (Int × Int × Int))) × (List (List UInt8 × Int × Int)) × List (List UInt8 × Int × Int × Int × Int)) (
     bif s14.1 then (
      (keep_name [115] (s14.2.2.2.2.2.2.length : Int)).bind fun r14 =>
      (keep_Src_Pick [500000, 2000000, 0] s14.2.1 s14.2.2.1).bind fun r15 =>
      (keep_Src_Pick [0, 200, 100000] r15.2.1 r15.2.2).bind fun r16 =>
      (keep_Src_Pick [0, 100000, 400000] r16.2.1 r16.2.2).bind fun r17 =>
      gd (fits (s14.2.2.2.2.2.2.length + 1) 48) <|
      some (r17.2.1, r17.2.2, s14.2.2.2.1, s14.2.2.2.2.1, s14.2.2.2.2.2.1, s14.2.2.2.2.2.2 ++ [(r14, (i4, (r15.1, (r16.1, r17.1))))]))
     else (
      some (s14.2.1, s14.2.2.1, s14.2.2.2.1, s14.2.2.2.2.1, s14.2.2.2.2.2.1, s14.2.2.2.2.2.2))) fun s15 =>
   some (.inl (wi64 (i4 + 1), s15.1, s15.2.1, s15.2.2.1, s15.2.2.2.1, s15.2.2.2.2.1, s15.2.2.2.2.2)))
  else (
   some (.inr (s10, s11, n6, n7, n8, n9)))

noncomputable def keep_Src_Network (s : List Int) (s2 : Int) : Option ((List (List UInt8) × List (List UInt8 × Int × Int × Int × Int × Int × List (Int × Int × Int)) × List (List UInt8 × Int × Int) × List (List UInt8 × Int × Int × Int × Int) × Int × Int) × List Int × Int) :=
  (keep_Src_Pick [(-100000), 0, 50000] s s2).bind fun r =>
  (keep_Src_Pick [0, 1, 5, 100] r.2.1 r.2.2).bind fun r2 =>
  (keep_Src_Range 2 6 r2.2.1 r2.2.2).bind fun r3 =>
  (iter (fun x => keep_Src_Network_L0 x.1 x.2) (r3.1, [])).bind fun s3 =>
  (iter (fun x2 => keep_Src_Network_L1 s3 x2.1 x2.2.1 x2.2.2.1 x2.2.2.2.1 x2.2.2.2.2) (0, r3.2.1, r3.2.2, s3, [])).bind fun s6 =>
  (keep_Src_N 4 s6.1 s6.2.1).bind fun r6 =>
  (iter (fun x3 => keep_Src_Network_L2 s3 x3.1 x3.2.1 x3.2.2.1 x3.2.2.2.1 x3.2.2.2.2) (r6.1, r6.2.1, r6.2.2, s6.2.2.1, s6.2.2.2)).bind fun s9 =>
  (iter (fun x4 => keep_Src_Network_L3 s3 x4.1 x4.2.1 x4.2.2.1 x4.2.2.2.1 x4.2.2.2.2.1 x4.2.2.2.2.2.1 x4.2.2.2.2.2.2) (0, s9.1, s9.2.1, s9.2.2.1, s9.2.2.2, [], [])).bind fun s16 =>
  some ((s16.2.2.1, (s16.2.2.2.1, (s16.2.2.2.2.1, (s16.2.2.2.2.2, (r.1, r2.1))))), s16.1, s16.2.1)

noncomputable def fn_keep_Src_Network : Fun :=
  { f := 9, np := 1, nr := 1,
    ji := { regs := [(0, .one (.ptr 0 0))], vars := [(0, 66, [.data (.sl (.int .i64)), .data (.int .i64)])], arrs := [] },
    jo := { regs := [(0, .one (.data (.pair (.sl (.str)) (.pair (.sl (.pair (.str) (.pair (.int .i64) (.pair (.int .i64) (.pair (.int .i64) (.pair (.int .i64) (.pair (.int .i64) (.sl (.pair (.int .i64) (.pair (.int .i64) (.int .i64))))))))))) (.pair (.sl (.pair (.str) (.pair (.int .i64) (.int .i64)))) (.pair (.sl (.pair (.str) (.pair (.int .i64) (.pair (.int .i64) (.pair (.int .i64) (.int .i64)))))) (.pair (.int .i64) (.int .i64))))))))], vars := [(0, 66, [.data (.sl (.int .i64)), .data (.int .i64)])], arrs := [] },
    tw := fun x => keep_Src_Network x.1 x.2 }
noncomputable def cx_keep_Src_Network : Cx := { Γ := types, ow := [], fs := [fn_keep_Src_Pick, fn_keep_Src_Range, fn_keep_name, fn_keep_Src_Segment, fn_keep_Src_N], N := 139 }
theorem ok_keep_Src_Network : FunOk Try.prog fn_keep_Src_Network :=
  FunOk.intro (C := cx_keep_Src_Network) (p := (.mk [] none .nil (.mk [] none .nil (.mk [] none (.mk [] none .nil (.mk [] none (.mk [] (some ({ regs := [(0, .one (.ptr 0 0)), (2, .one (.ptr 48 0)), (3, .one (.ptr 64 0)), (4, .one (.data (.int .i64)))], vars := [(0, 66, [.keep, .keep]), (48, 32, [.keep, .keep, .keep, .keep, .keep, .keep]), (64, 32, [.own 1049, .keep, .keep, .keep, .keep, .keep])], arrs := [(1049, .arr 9 (.str))] }, [{ e := .x 0, j := { regs := [(0, .one (.ptr 0 0)), (2, .one (.ptr 48 0)), (3, .one (.ptr 64 0))], vars := [(0, 66, [.keep, .keep]), (48, 32, [.keep, .keep, .keep, .keep, .keep, .keep]), (64, 32, [.own 1049, .keep, .keep, .keep, .keep, .keep])], arrs := [(1049, .arr 9 (.str))] } }])) .nil .nil) .nil)) (.mk [] none .nil (.mk [] none (.mk [] none .nil (.mk [] none (.mk [] (some ({ regs := [(0, .one (.ptr 0 0)), (2, .one (.ptr 48 0)), (3, .one (.ptr 64 0)), (5, .one .keep), (6, .one (.data (.int .i64)))], vars := [(0, 66, [.data (.sl (.int .i64)), .data (.int .i64)]), (48, 32, [.keep, .keep, .keep, .keep, .keep, .keep]), (64, 32, [.own 1049, .own 1065, .keep, .keep, .keep, .keep])], arrs := [(1049, .arr 9 (.str)), (1065, .arr 60 (.pair (.str) (.pair (.int .i64) (.pair (.int .i64) (.pair (.int .i64) (.pair (.int .i64) (.pair (.int .i64) (.sl (.pair (.int .i64) (.pair (.int .i64) (.int .i64)))))))))))] }, [{ e := .x 2, j := { regs := [(0, .one (.ptr 0 0)), (2, .one (.ptr 48 0)), (3, .one (.ptr 64 0)), (5, .one .keep)], vars := [(0, 66, [.data (.sl (.int .i64)), .data (.int .i64)]), (48, 32, [.keep, .keep, .keep, .keep, .keep, .keep]), (64, 32, [.own 1049, .own 1065, .keep, .keep, .keep, .keep])], arrs := [(1049, .arr 9 (.str)), (1065, .arr 60 (.pair (.str) (.pair (.int .i64) (.pair (.int .i64) (.pair (.int .i64) (.pair (.int .i64) (.pair (.int .i64) (.sl (.pair (.int .i64) (.pair (.int .i64) (.int .i64)))))))))))] } }])) .nil .nil) .nil)) (.mk [] none (.mk [] none .nil (.mk [] none (.mk [] (some ({ regs := [(0, .one (.ptr 0 0)), (2, .one (.ptr 48 0)), (3, .one (.ptr 64 0)), (5, .one .keep), (7, .one (.data (.int .i64)))], vars := [(0, 66, [.data (.sl (.int .i64)), .data (.int .i64)]), (48, 32, [.keep, .keep, .keep, .keep, .keep, .keep]), (64, 32, [.own 1049, .own 1065, .keep, .keep, .keep, .keep])], arrs := [(1049, .arr 9 (.str)), (1065, .arr 60 (.pair (.str) (.pair (.int .i64) (.pair (.int .i64) (.pair (.int .i64) (.pair (.int .i64) (.pair (.int .i64) (.sl (.pair (.int .i64) (.pair (.int .i64) (.int .i64)))))))))))] }, [{ e := .x 4, j := { regs := [(0, .one (.ptr 0 0)), (2, .one (.ptr 48 0)), (3, .one (.ptr 64 0)), (5, .one .keep)], vars := [(0, 66, [.data (.sl (.int .i64)), .data (.int .i64)]), (48, 32, [.keep, .keep, .keep, .keep, .keep, .keep]), (64, 32, [.own 1049, .own 1065, .keep, .keep, .keep, .keep])], arrs := [(1049, .arr 9 (.str)), (1065, .arr 60 (.pair (.str) (.pair (.int .i64) (.pair (.int .i64) (.pair (.int .i64) (.pair (.int .i64) (.pair (.int .i64) (.sl (.pair (.int .i64) (.pair (.int .i64) (.int .i64)))))))))))] } }])) .nil .nil) .nil)) (.mk [] none (.mk [] none .nil (.mk [] none (.mk [] (some ({ regs := [(0, .one (.ptr 0 0)), (2, .one (.ptr 48 0)), (3, .one (.ptr 64 0)), (5, .one .keep), (9, .one (.data (.int .i64)))], vars := [(0, 66, [.data (.sl (.int .i64)), .data (.int .i64)]), (48, 32, [.keep, .keep, .keep, .keep, .keep, .keep]), (64, 32, [.own 1049, .own 1065, .own 1081, .own 1097, .keep, .keep])], arrs := [(1049, .arr 9 (.str)), (1065, .arr 60 (.pair (.str) (.pair (.int .i64) (.pair (.int .i64) (.pair (.int .i64) (.pair (.int .i64) (.pair (.int .i64) (.sl (.pair (.int .i64) (.pair (.int .i64) (.int .i64))))))))))), (1081, .arr 71 (.pair (.str) (.pair (.int .i64) (.int .i64)))), (1097, .arr 73 (.pair (.str) (.pair (.int .i64) (.pair (.int .i64) (.pair (.int .i64) (.int .i64))))))] }, [{ e := .x 6, j := { regs := [(2, .one (.ptr 48 0)), (3, .one (.ptr 64 0))], vars := [(48, 32, [.keep, .keep, .keep, .keep, .keep, .keep]), (64, 32, [.own 1049, .own 1065, .own 1081, .own 1097, .keep, .keep]), (0, 66, [.data (.sl (.int .i64)), .data (.int .i64)])], arrs := [(1049, .arr 9 (.str)), (1065, .arr 60 (.pair (.str) (.pair (.int .i64) (.pair (.int .i64) (.pair (.int .i64) (.pair (.int .i64) (.pair (.int .i64) (.sl (.pair (.int .i64) (.pair (.int .i64) (.int .i64))))))))))), (1081, .arr 71 (.pair (.str) (.pair (.int .i64) (.int .i64)))), (1097, .arr 73 (.pair (.str) (.pair (.int .i64) (.pair (.int .i64) (.pair (.int .i64) (.int .i64))))))] } }])) (.mk [] none .nil (.mk [] none (.mk [] none (.mk [] none (.mk [] none (.mk [.join [{ e := .n, j := { regs := [(0, .one (.ptr 0 0)), (2, .one (.ptr 48 0)), (3, .one (.ptr 64 0)), (5, .one .keep), (9, .one .keep), (95, .one (.data (.bool)))], vars := [(0, 66, [.data (.sl (.int .i64)), .data (.int .i64)]), (48, 32, [.keep, .keep, .keep, .keep, .keep, .keep]), (64, 32, [.own 1049, .own 1065, .own 1081, .own 1097, .keep, .keep])], arrs := [(1049, .arr 9 (.str)), (1065, .arr 60 (.pair (.str) (.pair (.int .i64) (.pair (.int .i64) (.pair (.int .i64) (.pair (.int .i64) (.pair (.int .i64) (.sl (.pair (.int .i64) (.pair (.int .i64) (.int .i64))))))))))), (1081, .arr 71 (.pair (.str) (.pair (.int .i64) (.int .i64)))), (1097, .arr 73 (.pair (.str) (.pair (.int .i64) (.pair (.int .i64) (.pair (.int .i64) (.int .i64))))))] } }]] none .nil .nil) (.mk [.join [{ e := .n, j := { regs := [(0, .one (.ptr 0 0)), (2, .one (.ptr 48 0)), (3, .one (.ptr 64 0)), (5, .one .keep), (9, .one .keep)], vars := [(0, 66, [.data (.sl (.int .i64)), .data (.int .i64)]), (48, 32, [.keep, .keep, .keep, .keep, .keep, .keep]), (64, 32, [.own 1049, .own 1065, .own 1081, .own 1097, .keep, .keep])], arrs := [(1049, .arr 9 (.str)), (1065, .arr 60 (.pair (.str) (.pair (.int .i64) (.pair (.int .i64) (.pair (.int .i64) (.pair (.int .i64) (.pair (.int .i64) (.sl (.pair (.int .i64) (.pair (.int .i64) (.int .i64))))))))))), (1081, .arr 71 (.pair (.str) (.pair (.int .i64) (.int .i64)))), (1097, .arr 73 (.pair (.str) (.pair (.int .i64) (.pair (.int .i64) (.pair (.int .i64) (.int .i64))))))] } }]] none .nil .nil)) (.mk [] none (.mk [.join [{ e := .n, j := { regs := [(0, .one (.ptr 0 0)), (2, .one (.ptr 48 0)), (3, .one (.ptr 64 0)), (5, .one .keep), (9, .one .keep), (117, .one (.data (.bool)))], vars := [(0, 66, [.data (.sl (.int .i64)), .data (.int .i64)]), (48, 32, [.keep, .keep, .keep, .keep, .keep, .keep]), (64, 32, [.own 1049, .own 1065, .own 1081, .own 1097, .keep, .keep])], arrs := [(1049, .arr 9 (.str)), (1065, .arr 60 (.pair (.str) (.pair (.int .i64) (.pair (.int .i64) (.pair (.int .i64) (.pair (.int .i64) (.pair (.int .i64) (.sl (.pair (.int .i64) (.pair (.int .i64) (.int .i64))))))))))), (1081, .arr 71 (.pair (.str) (.pair (.int .i64) (.int .i64)))), (1097, .arr 73 (.pair (.str) (.pair (.int .i64) (.pair (.int .i64) (.pair (.int .i64) (.int .i64))))))] } }]] none .nil .nil) (.mk [.join [{ e := .n, j := { regs := [(0, .one (.ptr 0 0)), (2, .one (.ptr 48 0)), (3, .one (.ptr 64 0)), (5, .one .keep), (9, .one .keep)], vars := [(0, 66, [.data (.sl (.int .i64)), .data (.int .i64)]), (48, 32, [.keep, .keep, .keep, .keep, .keep, .keep]), (64, 32, [.own 1049, .own 1065, .own 1081, .own 1097, .keep, .keep])], arrs := [(1049, .arr 9 (.str)), (1065, .arr 60 (.pair (.str) (.pair (.int .i64) (.pair (.int .i64) (.pair (.int .i64) (.pair (.int .i64) (.pair (.int .i64) (.sl (.pair (.int .i64) (.pair (.int .i64) (.int .i64))))))))))), (1081, .arr 71 (.pair (.str) (.pair (.int .i64) (.int .i64)))), (1097, .arr 73 (.pair (.str) (.pair (.int .i64) (.pair (.int .i64) (.pair (.int .i64) (.int .i64))))))] } }]] none .nil .nil))) .nil) .nil)) .nil) .nil)) .nil))))))))
    Try.func9 rfl nmr9 rfl rfl rfl rfl types_ok ⟨⟨ok_keep_Src_Pick, ok_keep_Src_Range, ok_keep_name, ok_keep_Src_Segment, ok_keep_Src_N, trivial⟩, trivial⟩ mx (fun x => by kernel_rfl)

noncomputable def keep_Src_Fills_L0 (n : List (List UInt8) × List (List UInt8 × Int × Int × Int × Int × Int × List (Int × Int × Int)) × List (List UInt8 × Int × Int) × List (List UInt8 × Int × Int × Int × Int) × Int × Int) (batches : Int) (v : Int) (s3 : List Int) (s4 : Int) (out : List (List (Int × Int))) : Option ((Int × List Int × Int × List (List (Int × Int))) ⊕ (List Int × Int × List (List (Int × Int)))) :=
  bif decide (v < (n.2.1.length : Int)) then (
   gd (inB v n.2.1.length) <|
   (keep_Src_Fill (((((n.2.1.getD v.toNat ([], (0, (0, (0, (0, (0, []))))))).2).2).2).1) batches s3 s4).bind fun r =>
   gd (fits (out.length + 1) 24) <|
   some (.inl (wi64 (v + 1), r.2.1, r.2.2, out ++ [r.1])))
  else (
   some (.inr (s3, s4, out)))

noncomputable def keep_Src_Fills (n : List (List UInt8) × List (List UInt8 × Int × Int × Int × Int × Int × List (Int × Int × Int)) × List (List UInt8 × Int × Int) × List (List UInt8 × Int × Int × Int × Int) × Int × Int) (batches : Int) (s : List Int) (s2 : Int) : Option (List Int × Int × List (List (Int × Int))) :=
  (iter (fun x => keep_Src_Fills_L0 n batches x.1 x.2.1 x.2.2.1 x.2.2.2) (0, s, s2, [])).bind fun s5 =>
  some (s5.1, s5.2.1, s5.2.2)

noncomputable def fn_keep_Src_Fills : Fun :=
  { f := 12, np := 3, nr := 1,
    ji := { regs := [(0, .one (.ptr 0 0)), (1, .one (.data (.pair (.sl (.str)) (.pair (.sl (.pair (.str) (.pair (.int .i64) (.pair (.int .i64) (.pair (.int .i64) (.pair (.int .i64) (.pair (.int .i64) (.sl (.pair (.int .i64) (.pair (.int .i64) (.int .i64))))))))))) (.pair (.sl (.pair (.str) (.pair (.int .i64) (.int .i64)))) (.pair (.sl (.pair (.str) (.pair (.int .i64) (.pair (.int .i64) (.pair (.int .i64) (.int .i64)))))) (.pair (.int .i64) (.int .i64)))))))), (2, .one (.data (.int .i64)))], vars := [(0, 66, [.data (.sl (.int .i64)), .data (.int .i64)])], arrs := [] },
    jo := { regs := [(0, .one (.own 1))], vars := [(0, 66, [.data (.sl (.int .i64)), .data (.int .i64)])], arrs := [(1, .arr 44 (.sl (.pair (.int .i64) (.int .i64))))] },
    tw := fun x => keep_Src_Fills x.1 x.2.1 x.2.2.1 x.2.2.2 }
noncomputable def cx_keep_Src_Fills : Cx := { Γ := types, ow := [], fs := [fn_keep_Src_Fill], N := 27 }
theorem ok_keep_Src_Fills : FunOk Try.prog fn_keep_Src_Fills :=
  FunOk.intro (C := cx_keep_Src_Fills) (p := (.mk [] none .nil (.mk [] none .nil (.mk [] none (.mk [] none .nil (.mk [] none (.mk [] (some ({ regs := [(0, .one (.ptr 0 0)), (2, .one .keep), (7, .one (.own 139)), (11, .one .keep), (12, .one .keep), (13, .one (.data (.int .i64)))], vars := [(0, 66, [.data (.sl (.int .i64)), .data (.int .i64)])], arrs := [(139, .arr 44 (.sl (.pair (.int .i64) (.int .i64))))] }, [{ e := .x 0, j := { regs := [(7, .one (.own 139))], vars := [(0, 66, [.data (.sl (.int .i64)), .data (.int .i64)])], arrs := [(139, .arr 44 (.sl (.pair (.int .i64) (.int .i64))))] } }])) .nil .nil) .nil)) .nil))))
    Try.func12 rfl nmr12 rfl rfl rfl rfl types_ok ⟨⟨ok_keep_Src_Fill, trivial⟩, trivial⟩ mx (fun x => by kernel_rfl)

noncomputable def second_Mod (n : Int) (k : Int) : Option (Int) :=
  (keep_Mod n k).bind fun r =>
  some r

noncomputable def fn_second_Mod : Fun :=
  { f := 21, np := 2, nr := 1,
    ji := { regs := [(0, .one (.data (.int .i64))), (1, .one (.data (.int .i64)))], vars := [], arrs := [] },
    jo := { regs := [(0, .one (.data (.int .i64)))], vars := [], arrs := [] },
    tw := fun x => second_Mod x.1 x.2 }
noncomputable def cx_second_Mod : Cx := { Γ := types, ow := [], fs := [fn_keep_Mod], N := 8 }
theorem ok_second_Mod : FunOk Try.prog fn_second_Mod :=
  FunOk.intro (C := cx_second_Mod) (p := .nil)
    Try.func21 rfl nmr21 rfl rfl rfl rfl types_ok ⟨⟨ok_keep_Mod, trivial⟩, trivial⟩ mx (fun x => by kernel_rfl)

noncomputable def ref45_Litres_L1 (fills : List (List (Int × Int))) (i : Int) (most2 : Int) (k : Int) : Option ((Int × Int) ⊕ Int) :=
  gd (inB i fills.length) <|
  bif decide (k < ((fills.getD i.toNat []).length : Int)) then (
   gd (inB i fills.length) <|
   gd (inB k (fills.getD i.toNat []).length) <|
   some (.inl (max most2 (((fills.getD i.toNat []).getD k.toNat (0, 0)).1), wi64 (k + 1))))
  else (
   some (.inr most2))

noncomputable def ref45_Litres_L0 (fills : List (List (Int × Int))) (most : Int) (i : Int) : Option ((Int × Int) ⊕ (Int ⊕ (List Int × Int))) :=
  bif decide (i < (fills.length : Int)) then (
   gd (inB i fills.length) <|
   (ref14_Valid (fills.getD i.toNat [])).bind fun r =>
   bif !r then (
    some (.inr (.inr ([], 14))))
   else (
    (iter (fun x => ref45_Litres_L1 fills i x.1 x.2) (most, 0)).bind fun s =>
    some (.inl (s, wi64 (i + 1)))))
  else (
   some (.inr (.inl most)))

noncomputable def ref45_Litres_L3 (fills : List (List (Int × Int))) (i2 : Int) (k2 : Int) (out2 : List Int) : Option ((Int × List Int) ⊕ (List Int)) :=
  gd (inB i2 fills.length) <|
  bif decide (k2 < ((fills.getD i2.toNat []).length : Int)) then (
   gd (inB i2 fills.length) <|
   gd (inB k2 (fills.getD i2.toNat []).length) <|
   gd (inB i2 fills.length) <|
   gd (inB k2 (fills.getD i2.toNat []).length) <|
   gd (inB (((fills.getD i2.toNat []).getD k2.toNat (0, 0)).1) out2.length) <|
   gd (inB i2 fills.length) <|
   gd (inB k2 (fills.getD i2.toNat []).length) <|
   gd (inB (((fills.getD i2.toNat []).getD k2.toNat (0, 0)).1) out2.length) <|
   some (.inl (wi64 (k2 + 1), out2.set ((((fills.getD i2.toNat []).getD k2.toNat (0, 0)).1).toNat) (wi64 ((out2.getD ((((fills.getD i2.toNat []).getD k2.toNat (0, 0)).1).toNat) 0) + (((fills.getD i2.toNat []).getD k2.toNat (0, 0)).2))))))
  else (
   some (.inr out2))

noncomputable def ref45_Litres_L2 (fills : List (List (Int × Int))) (i2 : Int) (out : List Int) : Option ((Int × List Int) ⊕ (List Int)) :=
  bif decide (i2 < (fills.length : Int)) then (
   (iter (fun x3 => ref45_Litres_L3 fills i2 x3.1 x3.2) (0, out)).bind fun s5 =>
   some (.inl (wi64 (i2 + 1), s5)))
  else (
   some (.inr out))

noncomputable def ref45_Litres (fills : List (List (Int × Int))) : Option (List Int × Int) :=
  bif decide (32 < (fills.length : Int)) then (
   some ([], 4))
  else (
   (iter (fun x2 => ref45_Litres_L0 fills x2.1 x2.2) ((-1), 0)).bind fun s2 =>
   s2.elim (fun s3 =>
    gd (makeG 8 (wi64 (s3 + 1))) <|
    (iter (fun x4 => ref45_Litres_L2 fills x4.1 x4.2) (0, List.replicate (wi64 (s3 + 1)).toNat 0)).bind fun s6 =>
    some (s6, 0))
   (fun s4 =>
    some (s4.1, s4.2)))

noncomputable def fn_ref45_Litres : Fun :=
  { f := 25, np := 1, nr := 2,
    ji := { regs := [(0, .one (.data (.sl (.sl (.pair (.int .i64) (.int .i64))))))], vars := [], arrs := [] },
    jo := { regs := [(0, .one (.data (.sl (.int .i64)))), (1, .one (.data (.int .i64)))], vars := [], arrs := [] },
    tw := fun x => ref45_Litres x }
noncomputable def cx_ref45_Litres : Cx := { Γ := types, ow := [], fs := [fn_ref14_Valid], N := 93 }
theorem ok_ref45_Litres : FunOk Try.prog fn_ref45_Litres :=
  FunOk.intro (C := cx_ref45_Litres) (p := (.mk [] none .nil (.mk [] none .nil (.mk [] none .nil (.mk [] none (.mk [] none .nil (.mk [] none (.mk [] (some ({ regs := [(0, .one .keep), (4, .one (.data (.int .i64))), (5, .one (.data (.int .i64)))], vars := [], arrs := [] }, [{ e := .x 0, j := { regs := [(0, .one .keep), (4, .one (.data (.int .i64)))], vars := [], arrs := [] } }, { e := .r, j := { regs := [(2, .one (.data (.sl (.int .i64)))), (3, .one (.data (.int .i64)))], vars := [], arrs := [] } }])) (.mk [] none .nil (.mk [] none (.mk [] none (.mk [] none .nil (.mk [] none .nil (.mk [] none (.mk [] (some ({ regs := [(0, .one .keep), (4, .one (.data (.int .i64))), (5, .one .keep), (6, .one (.data (.int .i64)))], vars := [], arrs := [] }, [{ e := .x 2, j := { regs := [(0, .one .keep), (4, .one (.data (.int .i64))), (5, .one .keep)], vars := [], arrs := [] } }])) .nil .nil) .nil))) .nil) .nil)) .nil) .nil)) (.mk [] none .nil (.mk [] none (.mk [] none .nil (.mk [] none (.mk [] (some ({ regs := [(0, .one .keep), (7, .one (.own 752)), (8, .one (.data (.int .i64)))], vars := [], arrs := [(752, .arr 3 (.int .i64))] }, [{ e := .x 4, j := { regs := [(7, .one (.own 752))], vars := [], arrs := [(752, .arr 3 (.int .i64))] } }])) (.mk [] none .nil (.mk [] none (.mk [] none (.mk [] none .nil (.mk [] none (.mk [] (some ({ regs := [(0, .one .keep), (7, .one (.own 752)), (8, .one .keep), (9, .one (.data (.int .i64)))], vars := [], arrs := [(752, .arr 3 (.int .i64))] }, [{ e := .x 6, j := { regs := [(0, .one .keep), (7, .one (.own 752)), (8, .one .keep)], vars := [], arrs := [(752, .arr 3 (.int .i64))] } }])) .nil .nil) .nil)) .nil) .nil)) .nil) .nil)) .nil)))))))
    Try.func25 rfl nmr25 rfl rfl rfl rfl types_ok ⟨⟨ok_ref14_Valid, trivial⟩, trivial⟩ mx (fun x => by kernel_rfl)

noncomputable def ref45_at (l : List Int) (i : Int) : Option (Int) :=
  bif decide (i < (l.length : Int)) then (
   gd (inB i l.length) <|
   some (l.getD i.toNat 0))
  else (
   some 0)

noncomputable def fn_ref45_at : Fun :=
  { f := 48, np := 2, nr := 1,
    ji := { regs := [(0, .one (.data (.sl (.int .i64)))), (1, .one (.data (.int .i64)))], vars := [], arrs := [] },
    jo := { regs := [(0, .one (.data (.int .i64)))], vars := [], arrs := [] },
    tw := fun x => ref45_at x.1 x.2 }
noncomputable def cx_ref45_at : Cx := { Γ := types, ow := [], fs := [], N := 13 }
theorem ok_ref45_at : FunOk Try.prog fn_ref45_at :=
  FunOk.intro (C := cx_ref45_at) (p := .nil)
    Try.func48 rfl nmr48 rfl rfl rfl rfl types_ok ⟨trivial, trivial⟩ mx (fun x => by kernel_rfl)

noncomputable def ref45_Kept_L0 (r : List Int × Int) (r2 : List Int × Int) (r3 : List Int × Int) (r4 : List Int × Int) (i : Int) : Option (Int ⊕ (Unit ⊕ (Bool × Int))) :=
  Option.bind (α := Bool) (
    bif decide (i < (r.1.length : Int)) then (
     some true)
    else (
     bif decide (i < (r2.1.length : Int)) then (
      some true)
     else (
      bif decide (i < (r3.1.length : Int)) then (
       some true)
      else (
       some (decide (i < (r4.1.length : Int))))))) fun s =>
  bif s then (
   (ref45_at r.1 i).bind fun r5 =>
   (ref45_at r3.1 i).bind fun r6 =>
   (ref45_at r2.1 i).bind fun r7 =>
   (ref45_at r4.1 i).bind fun r8 =>
   bif !decide (wi64 (r5 + r6) = wi64 (r7 + r8)) then (
    some (.inr (.inr (false, 0))))
   else (
    some (.inl (wi64 (i + 1)))))
  else (
   some (.inr (.inl ())))

noncomputable def ref45_Kept (before : List (List (Int × Int))) (after : List (List (Int × Int))) (vin : List (Int × Int)) (out : List (Int × Int)) : Option (Bool × Int) :=
  (ref45_Litres before).bind fun r =>
  bif !decide (r.2 = 0) then (
   some (false, r.2))
  else (
   (ref45_Litres after).bind fun r2 =>
   bif !decide (r2.2 = 0) then (
    some (false, r2.2))
   else (
    (ref45_Litres [vin]).bind fun r3 =>
    bif !decide (r3.2 = 0) then (
     some (false, r3.2))
    else (
     (ref45_Litres [out]).bind fun r4 =>
     bif !decide (r4.2 = 0) then (
      some (false, r4.2))
     else (
      (iter (fun x => ref45_Kept_L0 r r2 r3 r4 x) 0).bind fun s2 =>
      s2.elim (fun s3 =>
       some (true, 0))
      (fun s4 =>
       some (s4.1, s4.2))))))

noncomputable def fn_ref45_Kept : Fun :=
  { f := 22, np := 4, nr := 2,
    ji := { regs := [(0, .one (.data (.sl (.sl (.pair (.int .i64) (.int .i64)))))), (1, .one (.data (.sl (.sl (.pair (.int .i64) (.int .i64)))))), (2, .one (.data (.sl (.pair (.int .i64) (.int .i64))))), (3, .one (.data (.sl (.pair (.int .i64) (.int .i64)))))], vars := [], arrs := [] },
    jo := { regs := [(0, .one (.data (.bool))), (1, .one (.data (.int .i64)))], vars := [], arrs := [] },
    tw := fun x => ref45_Kept x.1 x.2.1 x.2.2.1 x.2.2.2 }
noncomputable def cx_ref45_Kept : Cx := { Γ := types, ow := [], fs := [fn_ref45_Litres, fn_ref45_at], N := 89 }
theorem ok_ref45_Kept : FunOk Try.prog fn_ref45_Kept :=
  FunOk.intro (C := cx_ref45_Kept) (p := (.mk [] none .nil (.mk [] none .nil (.mk [] none .nil (.mk [] none .nil (.mk [] none .nil (.mk [] none .nil (.mk [] none .nil (.mk [] none .nil (.mk [] none .nil (.mk [] none (.mk [] none .nil (.mk [] none (.mk [] (some ({ regs := [(10, .one .keep), (12, .one .keep), (13, .one .keep), (14, .one .keep), (15, .one (.data (.int .i64)))], vars := [], arrs := [] }, [{ e := .x 0, j := { regs := [], vars := [], arrs := [] } }, { e := .r, j := { regs := [(8, .one (.data (.bool))), (9, .one (.data (.int .i64)))], vars := [], arrs := [] } }])) (.mk [] none (.mk [] none (.mk [.join [{ e := .n, j := { regs := [(10, .one .keep), (12, .one .keep), (13, .one .keep), (14, .one .keep), (15, .one .keep), (71, .one (.data (.bool)))], vars := [], arrs := [] } }]] none .nil .nil) .nil) .nil) .nil) .nil)) .nil)))))))))))
    Try.func22 rfl nmr22 rfl rfl rfl rfl types_ok ⟨⟨ok_ref45_Litres, ok_ref45_at, trivial⟩, trivial⟩ mx (fun x => by kernel_rfl)

noncomputable def ref28_SamePieces_L0 (a : List (Int × Int)) (b : List (Int × Int)) (i : Int) : Option (Int ⊕ (Unit ⊕ Bool)) :=
  bif decide (i < (a.length : Int)) then (
   gd (inB i a.length) <|
   gd (inB i b.length) <|
   bif !(decide ((a.getD i.toNat (0, 0)).1 = (b.getD i.toNat (0, 0)).1) && decide ((a.getD i.toNat (0, 0)).2 = (b.getD i.toNat (0, 0)).2)) then (
    some (.inr (.inr false)))
   else (
    some (.inl (wi64 (i + 1)))))
  else (
   some (.inr (.inl ())))

noncomputable def ref28_SamePieces (a : List (Int × Int)) (b : List (Int × Int)) : Option (Bool) :=
  bif !decide ((a.length : Int) = (b.length : Int)) then (
   some false)
  else (
   (iter (fun x => ref28_SamePieces_L0 a b x) 0).bind fun s =>
   s.elim (fun s2 =>
    some true)
   (fun s3 =>
    some s3))

noncomputable def fn_ref28_SamePieces : Fun :=
  { f := 49, np := 2, nr := 1,
    ji := { regs := [(0, .one (.data (.sl (.pair (.int .i64) (.int .i64))))), (1, .one (.data (.sl (.pair (.int .i64) (.int .i64)))))], vars := [], arrs := [] },
    jo := { regs := [(0, .one (.data (.bool)))], vars := [], arrs := [] },
    tw := fun x => ref28_SamePieces x.1 x.2 }
noncomputable def cx_ref28_SamePieces : Cx := { Γ := types, ow := [], fs := [], N := 26 }
theorem ok_ref28_SamePieces : FunOk Try.prog fn_ref28_SamePieces :=
  FunOk.intro (C := cx_ref28_SamePieces) (p := (.mk [] none .nil (.mk [] none .nil (.mk [] none (.mk [] none .nil (.mk [] none (.mk [] (some ({ regs := [(0, .one .keep), (1, .one .keep), (5, .one (.data (.int .i64)))], vars := [], arrs := [] }, [{ e := .x 0, j := { regs := [], vars := [], arrs := [] } }, { e := .r, j := { regs := [(4, .one (.data (.bool)))], vars := [], arrs := [] } }])) .nil .nil) .nil)) .nil))))
    Try.func49 rfl nmr49 rfl rfl rfl rfl types_ok ⟨trivial, trivial⟩ mx (fun x => by kernel_rfl)

noncomputable def ref45_Order (before : List (Int × Int)) (after : List (Int × Int)) (vin : List (Int × Int)) (out : List (Int × Int)) (back : Bool) : Option (Bool × Int) :=
  Option.bind (α := Bool) (
    (ref14_Valid before).bind fun r =>
    bif !r then (
     some true)
    else (
     (ref14_Valid after).bind fun r2 =>
     bif !r2 then (
      some true)
     else (
      (ref14_Valid vin).bind fun r3 =>
      bif !r3 then (
       some true)
      else (
       (ref14_Valid out).bind fun r4 =>
       some (!r4))))) fun s =>
  bif s then (
   some (false, 14))
  else (
   (ref14_Push before vin back).bind fun r5 =>
   bif decide (r5.1 = 0) then (
    (ref28_SamePieces r5.2.1 after).bind fun r6 =>
    bif r6 then (
     (ref28_SamePieces r5.2.2 out).bind fun r7 =>
     some (r7, 0))
    else (
     some (false, 0)))
   else (
    some (false, 0)))

noncomputable def fn_ref45_Order : Fun :=
  { f := 23, np := 5, nr := 2,
    ji := { regs := [(0, .one (.data (.sl (.pair (.int .i64) (.int .i64))))), (1, .one (.data (.sl (.pair (.int .i64) (.int .i64))))), (2, .one (.data (.sl (.pair (.int .i64) (.int .i64))))), (3, .one (.data (.sl (.pair (.int .i64) (.int .i64))))), (4, .one (.data (.bool)))], vars := [], arrs := [] },
    jo := { regs := [(0, .one (.data (.bool))), (1, .one (.data (.int .i64)))], vars := [], arrs := [] },
    tw := fun x => ref45_Order x.1 x.2.1 x.2.2.1 x.2.2.2.1 x.2.2.2.2 }
noncomputable def cx_ref45_Order : Cx := { Γ := types, ow := [], fs := [fn_ref14_Valid, fn_ref14_Push, fn_ref28_SamePieces], N := 53 }
theorem ok_ref45_Order : FunOk Try.prog fn_ref45_Order :=
  FunOk.intro (C := cx_ref45_Order) (p := (.mk [] none .nil (.mk [] none (.mk [] none (.mk [.join [{ e := .n, j := { regs := [(0, .one .keep), (1, .one .keep), (2, .one .keep), (3, .one .keep), (4, .one .keep), (32, .one (.data (.bool)))], vars := [], arrs := [] } }]] none .nil .nil) .nil) .nil)))
    Try.func23 rfl nmr23 rfl rfl rfl rfl types_ok ⟨⟨ok_ref14_Valid, ok_ref14_Push, ok_ref28_SamePieces, trivial⟩, trivial⟩ mx (fun x => by kernel_rfl)

noncomputable def audit_Litres_L0 (most : Int) (v : List (Int × Int)) : List (Option ((Int × List (Int × Int)) ⊕ Int)) :=
  bif isNilL v.tail then [
   some (.inr most)]
  else ((List.range v.tail.length).map fun i =>
   some (.inl (max most (((pickAt (0, 0) v.tail i).headD (0, 0)).1), pickAt (0, 0) v.tail i)))

noncomputable def audit_Litres_L1 (out : List Int) (v2 : List (Int × Int)) : List (Option ((List Int × List (Int × Int)) ⊕ (List Int))) :=
  bif isNilL v2.tail then [
   some (.inr out)]
  else ((List.range v2.tail.length).map fun i2 =>
   gd (inB (((pickAt (0, 0) v2.tail i2).headD (0, 0)).1) out.length) <|
   some (.inl (out.set ((((pickAt (0, 0) v2.tail i2).headD (0, 0)).1).toNat) (((pickAt (0, 0) v2.tail i2).headD (0, 0)).2), pickAt (0, 0) v2.tail i2)))

noncomputable def audit_Litres (fills : List (List (Int × Int))) : Option (Int × List Int) :=
  (audit_counted fills).bind fun r =>
  bif !decide (r.2 = 0) then (
   some (r.2, []))
  else (
   (iterA (fun x => audit_Litres_L0 x.1 x.2) ((-1), ((0, 0) :: r.1))).bind fun s =>
   gd (makeG 8 (wi64 (s + 1))) <|
   (iterA (fun x2 => audit_Litres_L1 x2.1 x2.2) (List.replicate (wi64 (s + 1)).toNat 0, ((0, 0) :: r.1))).bind fun s2 =>
   some (0, s2))

noncomputable def fn_audit_Litres : Fun :=
  { f := 24, np := 1, nr := 2,
    ji := { regs := [(0, .one (.data (.sl (.sl (.pair (.int .i64) (.int .i64))))))], vars := [], arrs := [] },
    jo := { regs := [(0, .one (.own 0)), (1, .one (.data (.int .i64)))], vars := [], arrs := [(0, .arr 3 (.int .i64))] },
    tw := fun x => audit_Litres x }
noncomputable def cx_audit_Litres : Cx := { Γ := types, ow := [], fs := [fn_audit_counted], N := 43 }
theorem ok_audit_Litres : FunOk Try.prog fn_audit_Litres :=
  FunOk.intro (C := cx_audit_Litres) (p := (.mk [] none .nil (.mk [] none .nil (.mk [] none .nil (.mk [] none .nil (.mk [] none (.mk [] none .nil (.mk [] none (.mk [] (some ({ regs := [(4, .one .keep), (6, .one (.data (.int .i64))), (20, .one (.own 336))], vars := [], arrs := [(336, .iter false (.int .i64) (.int .i64))] }, [{ e := .x 0, j := { regs := [(4, .one .keep), (6, .one (.data (.int .i64)))], vars := [], arrs := [] } }])) .nil .nil) .nil)) (.mk [] none .nil (.mk [] none (.mk [] none .nil (.mk [] none (.mk [] (some ({ regs := [(8, .one (.own 496)), (32, .one (.own 528))], vars := [], arrs := [(496, .arr 3 (.int .i64)), (528, .iter false (.int .i64) (.int .i64))] }, [{ e := .x 2, j := { regs := [(8, .one (.own 496))], vars := [], arrs := [(496, .arr 3 (.int .i64))] } }])) .nil .nil) .nil)) .nil))))))))
    Try.func24 rfl nmr24 rfl rfl rfl rfl types_ok ⟨⟨ok_audit_counted, trivial⟩, trivial⟩ mx (fun x => by kernel_rfl)

noncomputable def ref23_SameInts_L0 (a : List Int) (b : List Int) (i : Int) : Option (Int ⊕ (Unit ⊕ Bool)) :=
  bif decide (i < (a.length : Int)) then (
   gd (inB i a.length) <|
   gd (inB i b.length) <|
   bif !decide (a.getD i.toNat 0 = b.getD i.toNat 0) then (
    some (.inr (.inr false)))
   else (
    some (.inl (wi64 (i + 1)))))
  else (
   some (.inr (.inl ())))

noncomputable def ref23_SameInts (a : List Int) (b : List Int) : Option (Bool) :=
  bif !decide ((a.length : Int) = (b.length : Int)) then (
   some false)
  else (
   (iter (fun x => ref23_SameInts_L0 a b x) 0).bind fun s =>
   s.elim (fun s2 =>
    some true)
   (fun s3 =>
    some s3))

noncomputable def fn_ref23_SameInts : Fun :=
  { f := 26, np := 2, nr := 1,
    ji := { regs := [(0, .one (.data (.sl (.int .i64)))), (1, .one (.data (.sl (.int .i64))))], vars := [], arrs := [] },
    jo := { regs := [(0, .one (.data (.bool)))], vars := [], arrs := [] },
    tw := fun x => ref23_SameInts x.1 x.2 }
noncomputable def cx_ref23_SameInts : Cx := { Γ := types, ow := [], fs := [], N := 26 }
theorem ok_ref23_SameInts : FunOk Try.prog fn_ref23_SameInts :=
  FunOk.intro (C := cx_ref23_SameInts) (p := (.mk [] none .nil (.mk [] none .nil (.mk [] none (.mk [] none .nil (.mk [] none (.mk [] (some ({ regs := [(0, .one .keep), (1, .one .keep), (5, .one (.data (.int .i64)))], vars := [], arrs := [] }, [{ e := .x 0, j := { regs := [], vars := [], arrs := [] } }, { e := .r, j := { regs := [(4, .one (.data (.bool)))], vars := [], arrs := [] } }])) .nil .nil) .nil)) .nil))))
    Try.func26 rfl nmr26 rfl rfl rfl rfl types_ok ⟨trivial, trivial⟩ mx (fun x => by kernel_rfl)

noncomputable def law45_AuditFills (l : List Int) (odd : Int) (vby : Int) : Option (Bool) :=
  (second_Few l).bind fun r =>
  bif !r then (
   (law45_awake).bind fun r2 =>
   some r2)
  else (
   (keep_New l).bind fun r3 =>
   (keep_Src_Network r3.1 r3.2).bind fun r4 =>
   (keep_Src_Fills (r4.1.1, (r4.1.2.1, (r4.1.2.2.1, (r4.1.2.2.2.1, (r4.1.2.2.2.2.1, r4.1.2.2.2.2.2))))) 4 r4.2.1 r4.2.2).bind fun r5 =>
   (keep_Src_N (r5.2.2.length : Int) r5.1 r5.2.1).bind fun r6 =>
   (keep_Src_N 2 r6.2.1 r6.2.2).bind fun r7 =>
   gd (inB r6.1 r4.1.2.1.length) <|
   (keep_Src_Range 1 (((((r4.1.2.1.getD r6.1.toNat ([], (0, (0, (0, (0, (0, []))))))).2).2).2).1) r7.2.1 r7.2.2).bind fun r8 =>
   (keep_Src_Fill r8.1 4 r8.2.1 r8.2.2).bind fun r9 =>
   gd (inB r6.1 r5.2.2.length) <|
   (ref14_Push (r5.2.2.getD r6.1.toNat []) r9.1 (decide (r7.1 = 0))).bind fun r10 =>
   gd (fits (0 + r5.2.2.length) 24) <|
   gd (inB r6.1 ([] ++ r5.2.2).length) <|
   gd (inB r6.1 r5.2.2.length) <|
   (second_Mod odd 12).bind fun r11 =>
   Option.bind (α := Bool × (List (Int × Int)) × (List (List (Int × Int))) × (List (Int × Int)) × (List (List (Int × Int))) × List (Int × Int)) (
     bif decide (r11 = 0) then (
      gd (fits (0 + r10.2.1.length) 16) <|
      (second_Mod vby 3).bind fun r12 =>
      gd (fits (([] ++ r10.2.1).length + 1) 16) <|
      gd (inB r6.1 (([] ++ r5.2.2).set r6.1.toNat r10.2.1).length) <|
      some (decide (r7.1 = 0), r9.1, (([] ++ r5.2.2).set r6.1.toNat r10.2.1).set r6.1.toNat (([] ++ r10.2.1) ++ [(wi64 (1 + r12), 1)]), r5.2.2.getD r6.1.toNat [], r5.2.2, r10.2.2))
     else (
      Option.bind (α := Bool × (List (Int × Int)) × (List (List (Int × Int))) × (List (Int × Int)) × (List (List (Int × Int))) × List (Int × Int)) (
        bif decide (r11 = 1) then (
         gd (fits (0 + r10.2.2.length) 16) <|
         Option.bind (α := (List (List (Int × Int))) × (List (Int × Int)) × List (List (Int × Int))) (
           bif decide (0 < (([] ++ r10.2.2).length : Int)) then (
            gd (inB 0 ([] ++ r10.2.2).length) <|
            some (r5.2.2, ([] ++ r10.2.2).set 0 ((([] ++ r10.2.2).getD 0 (0, 0)).1, vby), ([] ++ r5.2.2).set r6.1.toNat r10.2.1))
           else (
            some (r5.2.2, ([] ++ r10.2.2), ([] ++ r5.2.2).set r6.1.toNat r10.2.1))) fun s =>
         some (decide (r7.1 = 0), r9.1, s.2.2, r5.2.2.getD r6.1.toNat [], s.1, s.2.1))
        else (
         Option.bind (α := Bool × (List (Int × Int)) × (List (List (Int × Int))) × (List (Int × Int)) × (List (List (Int × Int))) × List (Int × Int)) (
           bif decide (r11 = 2) then (
            some ((!(decide (r7.1 = 0))), r9.1, ([] ++ r5.2.2).set r6.1.toNat r10.2.1, r5.2.2.getD r6.1.toNat [], r5.2.2, r10.2.2))
           else (
            Option.bind (α := (List (Int × Int)) × (List (List (Int × Int))) × (List (Int × Int)) × (List (List (Int × Int))) × List (Int × Int)) (
              bif decide (r11 = 3) then (
               gd (fits (0 + r9.1.length) 16) <|
               (second_Mod vby 1003).bind fun r13 =>
               gd (inB 0 ([] ++ r9.1).length) <|
               some (([] ++ r9.1).set 0 (wi64 (r13 - 1), (([] ++ r9.1).getD 0 (0, 0)).2), ([] ++ r5.2.2).set r6.1.toNat r10.2.1, r5.2.2.getD r6.1.toNat [], r5.2.2, r10.2.2))
              else (
               Option.bind (α := (List (List (Int × Int))) × (List (Int × Int)) × (List (List (Int × Int))) × List (Int × Int)) (
                 bif decide (r11 = 4) then (
                  gd (decide (0 < 40) && fits (r5.2.2.length + 40) 24) <|
                  some (([] ++ r5.2.2).set r6.1.toNat r10.2.1, r5.2.2.getD r6.1.toNat [], r5.2.2 ++ (List.replicate 40 []), r10.2.2))
                 else (
                  Option.bind (α := (List (List (Int × Int))) × (List (Int × Int)) × (List (List (Int × Int))) × List (Int × Int)) (
                    bif decide (r11 = 5) then (
                     gd (cutG (some (.i64, 1)) none (([] ++ r5.2.2).set r6.1.toNat r10.2.1).length) <|
                     some ((([] ++ r5.2.2).set r6.1.toNat r10.2.1).drop 1, r5.2.2.getD r6.1.toNat [], r5.2.2, r10.2.2))
                    else (
                     Option.bind (α := (List (Int × Int)) × (List (List (Int × Int))) × (List (Int × Int)) × List (List (Int × Int))) (
                       bif decide (r11 = 6) then (
                        some ([], r5.2.2, r10.2.2, ([] ++ r5.2.2).set r6.1.toNat r10.2.1))
                       else (
                        some (r5.2.2.getD r6.1.toNat [], r5.2.2, r10.2.2, ([] ++ r5.2.2).set r6.1.toNat r10.2.1))) fun s2 =>
                     some (s2.2.2.2, s2.1, s2.2.1, s2.2.2.1))) fun s3 =>
                  some (s3.1, s3.2.1, s3.2.2.1, s3.2.2.2))) fun s4 =>
               some (r9.1, s4.1, s4.2.1, s4.2.2.1, s4.2.2.2))) fun s5 =>
            some (decide (r7.1 = 0), s5.1, s5.2.1, s5.2.2.1, s5.2.2.2.1, s5.2.2.2.2))) fun s6 =>
         some (s6.1, s6.2.1, s6.2.2.1, s6.2.2.2.1, s6.2.2.2.2.1, s6.2.2.2.2.2))) fun s7 =>
      some (s7.1, s7.2.1, s7.2.2.1, s7.2.2.2.1, s7.2.2.2.2.1, s7.2.2.2.2.2))) fun s8 =>
   (audit_Kept s8.2.2.2.2.1 s8.2.2.1 s8.2.1 s8.2.2.2.2.2).bind fun r14 =>
   (ref45_Kept s8.2.2.2.2.1 s8.2.2.1 s8.2.1 s8.2.2.2.2.2).bind fun r15 =>
   (audit_Order s8.2.2.2.1 r10.2.1 s8.2.1 s8.2.2.2.2.2 s8.1).bind fun r16 =>
   (ref45_Order s8.2.2.2.1 r10.2.1 s8.2.1 s8.2.2.2.2.2 s8.1).bind fun r17 =>
   (audit_Litres s8.2.2.2.2.1).bind fun r18 =>
   (ref45_Litres s8.2.2.2.2.1).bind fun r19 =>
   bif decide (r14.2 = r15.2) then (
    bif r14.1 == r15.1 then (
     bif decide (r16.2 = r17.2) then (
      bif r16.1 == r17.1 then (
       bif decide (r18.1 = r19.2) then (
        (ref23_SameInts r18.2 r19.1).bind fun r20 =>
        bif r20 then (
         (law45_awake).bind fun r21 =>
         some r21)
        else (
         some false))
       else (
        some false))
      else (
       some false))
     else (
      some false))
    else (
     some false))
   else (
    some false))

noncomputable def fn_law45_AuditFills : Fun :=
  { f := 5, np := 3, nr := 1,
    ji := { regs := [(0, .one (.data (.sl (.int .i64)))), (1, .one (.data (.int .i64))), (2, .one (.data (.int .i64)))], vars := [], arrs := [] },
    jo := { regs := [(0, .one (.data (.bool)))], vars := [], arrs := [] },
    tw := fun x => law45_AuditFills x.1 x.2.1 x.2.2 }
noncomputable def cx_law45_AuditFills : Cx := { Γ := types, ow := [69, 86, 98, 114, 1000094], fs := [fn_second_Few, fn_law45_awake, fn_keep_New, fn_keep_Src_Network, fn_keep_Src_Fills, fn_keep_Src_N, fn_keep_Src_Range, fn_keep_Src_Fill, fn_ref14_Push, fn_second_Mod, fn_audit_Kept, fn_ref45_Kept, fn_audit_Order, fn_ref45_Order, fn_audit_Litres, fn_ref45_Litres, fn_ref23_SameInts], N := 208 }
theorem ok_law45_AuditFills : FunOk Try.prog fn_law45_AuditFills :=
  FunOk.intro (C := cx_law45_AuditFills) (p := (.mk [] none .nil (.mk [] none .nil (.mk [] none .nil (.mk [] none .nil (.mk [] none .nil (.mk [] none .nil (.mk [] none .nil (.mk [] none .nil (.mk [] none .nil (.mk [] none (.mk [.fz [13]] none .nil .nil) (.mk [] none .nil (.mk [] none (.mk [] none .nil (.mk [] none (.mk [] none .nil (.mk [.join [{ e := .n, j := { regs := [(9, .one (.own 171)), (11, .one (.data (.bool))), (12, .one (.data (.sl (.pair (.int .i64) (.int .i64))))), (13, .one .keep), (14, .one (.own 251)), (16, .one (.data (.sl (.sl (.pair (.int .i64) (.int .i64)))))), (17, .one (.data (.sl (.pair (.int .i64) (.int .i64)))))], vars := [], arrs := [(171, .arr 44 (.sl (.pair (.int .i64) (.int .i64)))), (251, .arr 46 (.pair (.int .i64) (.int .i64)))] } }]] none .nil (.mk [] none .nil (.mk [.join [{ e := .n, j := { regs := [(9, .one (.own 171)), (11, .one (.data (.bool))), (12, .one (.data (.sl (.pair (.int .i64) (.int .i64))))), (13, .one .keep), (14, .one (.own 251)), (16, .one (.data (.sl (.sl (.pair (.int .i64) (.int .i64)))))), (17, .one (.data (.sl (.pair (.int .i64) (.int .i64)))))], vars := [], arrs := [(171, .arr 44 (.sl (.pair (.int .i64) (.int .i64)))), (251, .arr 46 (.pair (.int .i64) (.int .i64)))] } }]] none (.mk [] none .nil (.mk [] none .nil (.mk [.join [{ e := .n, j := { regs := [(9, .one (.own 656)), (11, .one .keep), (12, .one .keep), (13, .one .keep), (14, .one (.own 1616)), (16, .one (.own 1152)), (17, .one .keep)], vars := [], arrs := [(656, .arr 44 (.sl (.pair (.int .i64) (.int .i64)))), (1616, .arr 46 (.pair (.int .i64) (.int .i64))), (1152, .arr 44 (.sl (.pair (.int .i64) (.int .i64))))] } }]] none .nil .nil))) (.mk [] none .nil (.mk [.join [{ e := .n, j := { regs := [(9, .one (.own 171)), (11, .one (.data (.bool))), (12, .one (.data (.sl (.pair (.int .i64) (.int .i64))))), (13, .one .keep), (14, .one (.own 1057)), (16, .one (.data (.sl (.sl (.pair (.int .i64) (.int .i64)))))), (17, .one (.data (.sl (.pair (.int .i64) (.int .i64)))))], vars := [], arrs := [(171, .arr 44 (.sl (.pair (.int .i64) (.int .i64)))), (1057, .arr 46 (.pair (.int .i64) (.int .i64)))] } }]] none .nil (.mk [] none .nil (.mk [.join [{ e := .n, j := { regs := [(9, .one (.own 171)), (11, .one .keep), (12, .one (.data (.sl (.pair (.int .i64) (.int .i64))))), (13, .one .keep), (14, .one (.own 1057)), (16, .one (.data (.sl (.sl (.pair (.int .i64) (.int .i64)))))), (17, .one (.data (.sl (.pair (.int .i64) (.int .i64)))))], vars := [], arrs := [(171, .arr 44 (.sl (.pair (.int .i64) (.int .i64)))), (1057, .arr 46 (.pair (.int .i64) (.int .i64)))] } }]] none .nil (.mk [] none .nil (.mk [.join [{ e := .n, j := { regs := [(9, .one (.own 171)), (11, .one .keep), (12, .one .keep), (13, .one .keep), (14, .one (.own 1057)), (16, .one (.data (.sl (.sl (.pair (.int .i64) (.int .i64)))))), (17, .one (.data (.sl (.pair (.int .i64) (.int .i64)))))], vars := [], arrs := [(171, .arr 44 (.sl (.pair (.int .i64) (.int .i64)))), (1057, .arr 46 (.pair (.int .i64) (.int .i64)))] } }]] none .nil (.mk [] none .nil (.mk [.join [{ e := .n, j := { regs := [(9, .one (.own 656)), (11, .one .keep), (12, .one .keep), (13, .one .keep), (14, .one (.own 1057)), (16, .one (.data (.sl (.sl (.pair (.int .i64) (.int .i64)))))), (17, .one (.data (.sl (.pair (.int .i64) (.int .i64)))))], vars := [], arrs := [(656, .arr 44 (.sl (.pair (.int .i64) (.int .i64)))), (1057, .arr 46 (.pair (.int .i64) (.int .i64)))] } }]] none (.mk [.fz [16]] none .nil .nil) (.mk [] none .nil (.mk [.join [{ e := .n, j := { regs := [(9, .one (.own 656)), (11, .one .keep), (12, .one .keep), (13, .one .keep), (14, .one (.own 1057)), (16, .one (.own 1152)), (17, .one (.data (.sl (.pair (.int .i64) (.int .i64)))))], vars := [], arrs := [(656, .arr 44 (.sl (.pair (.int .i64) (.int .i64)))), (1057, .arr 46 (.pair (.int .i64) (.int .i64))), (1152, .arr 44 (.sl (.pair (.int .i64) (.int .i64))))] } }]] none .nil .nil)))))))))))))) .nil)) (.mk [] none .nil (.mk [] none .nil (.mk [] none .nil (.mk [] none .nil (.mk [] none (.mk [.fz [9]] none .nil .nil) .nil))))))))))))))))))
    Try.func5 rfl nmr5 rfl rfl rfl rfl types_ok ⟨⟨ok_second_Few, ok_law45_awake, ok_keep_New, ok_keep_Src_Network, ok_keep_Src_Fills, ok_keep_Src_N, ok_keep_Src_Range, ok_keep_Src_Fill, ok_ref14_Push, ok_second_Mod, ok_audit_Kept, ok_ref45_Kept, ok_audit_Order, ok_ref45_Order, ok_audit_Litres, ok_ref45_Litres, ok_ref23_SameInts, trivial⟩, trivial⟩ mx (fun x => by kernel_rfl)

end Go.Proofs.Ytnhaphgnpgaocaa
