/- The copy check of a builder, walked. No condition. -/
import Derived.Shelf.Strings.OnBuilder
import Derived.Test.YtihbfecdccamoaaGreatDoorProg
namespace Go.Proofs
open Go.Shelf Go.RowKit
theorem Tryz.ccSize : (Tryz.prog.info? 72).map (·.size) = some 2 := by kernel_rfl
theorem Tryz.ccLies : liesAt Tryz.prog Tryz.prog.depth 72 (2 / Tryz.prog.cellsOf 72) 0 72 1 = true := by kernel_rfl
set_option maxHeartbeats 1000000 in
set_option maxRecDepth 100000 in
theorem Tryz.cc_used (b : Nat) (w : World) (h0 : w.cell? ⟨b, 0, none⟩ = some (.pointer (some ⟨b, 0, none⟩))) :
    Calls Tryz.prog 56 #[.pointer (some ⟨b, 0, none⟩)] w fun e w' => e = .returned (.tuple #[]) ∧ w' = w := by
  obtain ⟨j, hj, _⟩ := Option.map_eq_some_iff.1 Tryz.ccSize
  have mixed : Tryz.prog.follows .mixedOrders = true := by kernel_rfl
  have t4 := Tryz.underlying4; have a4 := Tryz.isAgg4; have v4 := Tryz.zeroValue4; have u4 := run_underlying Tryz.underlying4; have z4 := Tryz.sizeOf4
  have t70 := Tryz.underlying70; have a70 := Tryz.isAgg70; have v70 := Tryz.zeroValue70; have u70 := run_underlying Tryz.underlying70; have z70 := Tryz.sizeOf70
  have t72 := Tryz.underlying72; have a72 := Tryz.isAgg72; have v72 := Tryz.zeroValue72; have u72 := run_underlying Tryz.underlying72; have z72 := Tryz.sizeOf72
  have t99 := Tryz.underlying99; have a99 := Tryz.isAgg99; have v99 := Tryz.zeroValue99; have u99 := run_underlying Tryz.underlying99; have z99 := Tryz.sizeOf99
  go_enter Tryz.func56, Tryz.ntmps56
  go_wp2
  rw [Lib.run_neq_ptr_same w _ t70 hj]
  go_wp2
  go_end0
  exact ⟨rfl, rfl⟩
set_option maxHeartbeats 1000000 in
set_option maxRecDepth 100000 in
theorem Tryz.cc_fresh (b : Nat) (w : World) (h0 : w.cell? ⟨b, 0, none⟩ = some (.pointer none)) (hsh : w.shape? b = some (72, 2)) (hfz : w.frozen? ⟨b, 0, none⟩ = false) :
    Calls Tryz.prog 56 #[.pointer (some ⟨b, 0, none⟩)] w fun e w' => e = .returned (.tuple #[]) ∧ w' = w.setCell ⟨b, 0, none⟩ (.pointer (some ⟨b, 0, none⟩)) := by
  obtain ⟨j, hj, hjs⟩ := Option.map_eq_some_iff.1 Tryz.ccSize
  have mixed : Tryz.prog.follows .mixedOrders = true := by kernel_rfl
  have t4 := Tryz.underlying4; have a4 := Tryz.isAgg4; have v4 := Tryz.zeroValue4; have u4 := run_underlying Tryz.underlying4; have z4 := Tryz.sizeOf4
  have t70 := Tryz.underlying70; have a70 := Tryz.isAgg70; have v70 := Tryz.zeroValue70; have u70 := run_underlying Tryz.underlying70; have z70 := Tryz.sizeOf70
  have t72 := Tryz.underlying72; have a72 := Tryz.isAgg72; have v72 := Tryz.zeroValue72; have u72 := run_underlying Tryz.underlying72; have z72 := Tryz.sizeOf72
  have t99 := Tryz.underlying99; have a99 := Tryz.isAgg99; have v99 := Tryz.zeroValue99; have u99 := run_underlying Tryz.underlying99; have z99 := Tryz.sizeOf99
  go_enter Tryz.func56, Tryz.ntmps56
  go_wp2
  rw [Lib.run_to_unsafe w ⟨b, 0, none⟩ t70 t99 hj (by rw [hjs]; decide) hsh (Nat.zero_lt_succ 1)]
  simp only [Result.andThen]
  rw [Oper.upon_value]
  go_wp2
  rw [run_callFunc_extern Tryz.func70 (by kernel_rfl) (by kernel_rfl) (by kernel_rfl) (e := Extern.AbiNoEscape.same) (by kernel_rfl)]
  rw [Lib.run_noEscape]
  simp only [Result.andThen]
  rw [Oper.upon_value]
  go_wp2
  rw [Lib.run_from_unsafe w ⟨b, 0, none⟩ t99 t70 hj hsh Tryz.ccLies]
  simp only [Result.andThen]
  rw [Oper.upon_value]
  go_wp2
  go_end0
  exact ⟨rfl, rfl⟩
end Go.Proofs
