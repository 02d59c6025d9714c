/- The copy check of a builder, walked. No condition. -/
import Derived.Shelf.Strings.OnBuilder
import Derived.Test.YtnilkkggnffklaaGreatDoorProg
namespace Go.Proofs
open Go.Shelf Go.RowKit
theorem Tryz.ccSize : (Tryz.prog.info? 76).map (·.size) = some 2 := by kernel_rfl
theorem Tryz.ccLies : liesAt Tryz.prog Tryz.prog.depth 76 (2 / Tryz.prog.cellsOf 76) 0 76 1 = true := by kernel_rfl
set_option maxHeartbeats 1000000 in
set_option maxRecDepth 100000 in
theorem Tryz.cc_used (b : Nat) (w : World) (h0 : w.cell? ⟨b, 0, none⟩ = some (.pointer (some ⟨b, 0, none⟩))) :
    Calls Tryz.prog 76 #[.pointer (some ⟨b, 0, none⟩)] w fun e w' => e = .returned (.tuple #[]) ∧ w' = w := by
  obtain ⟨j, hj, _⟩ := Option.map_eq_some_iff.1 Tryz.ccSize
  have mixed : Tryz.prog.follows .mixedOrders = true := by kernel_rfl
  have t4 := Tryz.underlying4; have a4 := Tryz.isAgg4; have v4 := Tryz.zeroValue4; have u4 := run_underlying Tryz.underlying4; have z4 := Tryz.sizeOf4
  have t73 := Tryz.underlying73; have a73 := Tryz.isAgg73; have v73 := Tryz.zeroValue73; have u73 := run_underlying Tryz.underlying73; have z73 := Tryz.sizeOf73
  have t76 := Tryz.underlying76; have a76 := Tryz.isAgg76; have v76 := Tryz.zeroValue76; have u76 := run_underlying Tryz.underlying76; have z76 := Tryz.sizeOf76
  have t121 := Tryz.underlying121; have a121 := Tryz.isAgg121; have v121 := Tryz.zeroValue121; have u121 := run_underlying Tryz.underlying121; have z121 := Tryz.sizeOf121
  go_enter Tryz.func76, Tryz.ntmps76
  go_wp2
  rw [Lib.run_neq_ptr_same w _ t73 hj]
  go_wp2
  go_end0
  exact ⟨rfl, rfl⟩
set_option maxHeartbeats 1000000 in
set_option maxRecDepth 100000 in
theorem Tryz.cc_fresh (b : Nat) (w : World) (h0 : w.cell? ⟨b, 0, none⟩ = some (.pointer none)) (hsh : w.shape? b = some (76, 2)) (hfz : w.frozen? ⟨b, 0, none⟩ = false) :
    Calls Tryz.prog 76 #[.pointer (some ⟨b, 0, none⟩)] w fun e w' => e = .returned (.tuple #[]) ∧ w' = w.setCell ⟨b, 0, none⟩ (.pointer (some ⟨b, 0, none⟩)) := by
  obtain ⟨j, hj, hjs⟩ := Option.map_eq_some_iff.1 Tryz.ccSize
  have mixed : Tryz.prog.follows .mixedOrders = true := by kernel_rfl
  have t4 := Tryz.underlying4; have a4 := Tryz.isAgg4; have v4 := Tryz.zeroValue4; have u4 := run_underlying Tryz.underlying4; have z4 := Tryz.sizeOf4
  have t73 := Tryz.underlying73; have a73 := Tryz.isAgg73; have v73 := Tryz.zeroValue73; have u73 := run_underlying Tryz.underlying73; have z73 := Tryz.sizeOf73
  have t76 := Tryz.underlying76; have a76 := Tryz.isAgg76; have v76 := Tryz.zeroValue76; have u76 := run_underlying Tryz.underlying76; have z76 := Tryz.sizeOf76
  have t121 := Tryz.underlying121; have a121 := Tryz.isAgg121; have v121 := Tryz.zeroValue121; have u121 := run_underlying Tryz.underlying121; have z121 := Tryz.sizeOf121
  go_enter Tryz.func76, Tryz.ntmps76
  go_wp2
  rw [Lib.run_to_unsafe w ⟨b, 0, none⟩ t73 t121 hj (by rw [hjs]; decide) hsh (Nat.zero_lt_succ 1)]
  simp only [Result.andThen]
  rw [Oper.upon_value]
  go_wp2
  rw [run_callFunc_extern Tryz.func96 (by kernel_rfl) (by kernel_rfl) (by kernel_rfl) (e := Extern.AbiNoEscape.same) (by kernel_rfl)]
  rw [Lib.run_noEscape]
  simp only [Result.andThen]
  rw [Oper.upon_value]
  go_wp2
  rw [Lib.run_from_unsafe w ⟨b, 0, none⟩ t121 t73 hj hsh Tryz.ccLies]
  simp only [Result.andThen]
  rw [Oper.upon_value]
  go_wp2
  go_end0
  exact ⟨rfl, rfl⟩
end Go.Proofs
