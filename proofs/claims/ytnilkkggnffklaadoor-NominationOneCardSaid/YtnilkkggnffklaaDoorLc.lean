/- The copy check of a builder, walked. No condition. -/
import Derived.Shelf.Strings.OnBuilder
import Derived.Test.YtnilkkggnffklaaDoorProg
namespace Go.Proofs
open Go.Shelf Go.RowKit
theorem Tryd.ccSize : (Tryd.prog.info? 69).map (·.size) = some 2 := by kernel_rfl
theorem Tryd.ccLies : liesAt Tryd.prog Tryd.prog.depth 69 (2 / Tryd.prog.cellsOf 69) 0 69 1 = true := by kernel_rfl
set_option maxHeartbeats 1000000 in
set_option maxRecDepth 100000 in
theorem Tryd.cc_used (b : Nat) (w : World) (h0 : w.cell? ⟨b, 0, none⟩ = some (.pointer (some ⟨b, 0, none⟩))) :
    Calls Tryd.prog 48 #[.pointer (some ⟨b, 0, none⟩)] w fun e w' => e = .returned (.tuple #[]) ∧ w' = w := by
  obtain ⟨j, hj, _⟩ := Option.map_eq_some_iff.1 Tryd.ccSize
  have mixed : Tryd.prog.follows .mixedOrders = true := by kernel_rfl
  have t4 := Tryd.underlying4; have a4 := Tryd.isAgg4; have v4 := Tryd.zeroValue4; have u4 := run_underlying Tryd.underlying4; have z4 := Tryd.sizeOf4
  have t66 := Tryd.underlying66; have a66 := Tryd.isAgg66; have v66 := Tryd.zeroValue66; have u66 := run_underlying Tryd.underlying66; have z66 := Tryd.sizeOf66
  have t69 := Tryd.underlying69; have a69 := Tryd.isAgg69; have v69 := Tryd.zeroValue69; have u69 := run_underlying Tryd.underlying69; have z69 := Tryd.sizeOf69
  have t114 := Tryd.underlying114; have a114 := Tryd.isAgg114; have v114 := Tryd.zeroValue114; have u114 := run_underlying Tryd.underlying114; have z114 := Tryd.sizeOf114
  go_enter Tryd.func48, Tryd.ntmps48
  go_wp2
  rw [Lib.run_neq_ptr_same w _ t66 hj]
  go_wp2
  go_end0
  exact ⟨rfl, rfl⟩
set_option maxHeartbeats 1000000 in
set_option maxRecDepth 100000 in
theorem Tryd.cc_fresh (b : Nat) (w : World) (h0 : w.cell? ⟨b, 0, none⟩ = some (.pointer none)) (hsh : w.shape? b = some (69, 2)) (hfz : w.frozen? ⟨b, 0, none⟩ = false) :
    Calls Tryd.prog 48 #[.pointer (some ⟨b, 0, none⟩)] w fun e w' => e = .returned (.tuple #[]) ∧ w' = w.setCell ⟨b, 0, none⟩ (.pointer (some ⟨b, 0, none⟩)) := by
  obtain ⟨j, hj, hjs⟩ := Option.map_eq_some_iff.1 Tryd.ccSize
  have mixed : Tryd.prog.follows .mixedOrders = true := by kernel_rfl
  have t4 := Tryd.underlying4; have a4 := Tryd.isAgg4; have v4 := Tryd.zeroValue4; have u4 := run_underlying Tryd.underlying4; have z4 := Tryd.sizeOf4
  have t66 := Tryd.underlying66; have a66 := Tryd.isAgg66; have v66 := Tryd.zeroValue66; have u66 := run_underlying Tryd.underlying66; have z66 := Tryd.sizeOf66
  have t69 := Tryd.underlying69; have a69 := Tryd.isAgg69; have v69 := Tryd.zeroValue69; have u69 := run_underlying Tryd.underlying69; have z69 := Tryd.sizeOf69
  have t114 := Tryd.underlying114; have a114 := Tryd.isAgg114; have v114 := Tryd.zeroValue114; have u114 := run_underlying Tryd.underlying114; have z114 := Tryd.sizeOf114
  go_enter Tryd.func48, Tryd.ntmps48
  go_wp2
  rw [Lib.run_to_unsafe w ⟨b, 0, none⟩ t66 t114 hj (by rw [hjs]; decide) hsh (Nat.zero_lt_succ 1)]
  simp only [Result.andThen]
  rw [Oper.upon_value]
  go_wp2
  rw [run_callFunc_extern Tryd.func75 (by kernel_rfl) (by kernel_rfl) (by kernel_rfl) (e := Extern.AbiNoEscape.same) (by kernel_rfl)]
  rw [Lib.run_noEscape]
  simp only [Result.andThen]
  rw [Oper.upon_value]
  go_wp2
  rw [Lib.run_from_unsafe w ⟨b, 0, none⟩ t114 t66 hj hsh Tryd.ccLies]
  simp only [Result.andThen]
  rw [Oper.upon_value]
  go_wp2
  go_end0
  exact ⟨rfl, rfl⟩
end Go.Proofs
