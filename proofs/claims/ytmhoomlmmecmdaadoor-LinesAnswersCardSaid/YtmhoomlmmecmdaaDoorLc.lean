/- The copy check of a builder, walked. No condition. -/
import Derived.Shelf.Strings.OnBuilder
import Derived.Test.YtmhoomlmmecmdaaDoorProg
namespace Go.Proofs
open Go.Shelf Go.RowKit
theorem Tryd.ccSize : (Tryd.prog.info? 66).map (·.size) = some 2 := by kernel_rfl
theorem Tryd.ccLies : liesAt Tryd.prog Tryd.prog.depth 66 (2 / Tryd.prog.cellsOf 66) 0 66 1 = true := by kernel_rfl
set_option maxHeartbeats 1000000 in
set_option maxRecDepth 100000 in
theorem Tryd.cc_used (b : Nat) (w : World) (h0 : w.cell? ⟨b, 0, none⟩ = some (.pointer (some ⟨b, 0, none⟩))) :
    Calls Tryd.prog 51 #[.pointer (some ⟨b, 0, none⟩)] w fun e w' => e = .returned (.tuple #[]) ∧ w' = w := by
  obtain ⟨j, hj, _⟩ := Option.map_eq_some_iff.1 Tryd.ccSize
  have mixed : Tryd.prog.follows .mixedOrders = true := by kernel_rfl
  have t4 := Tryd.underlying4; have a4 := Tryd.isAgg4; have v4 := Tryd.zeroValue4; have u4 := run_underlying Tryd.underlying4; have z4 := Tryd.sizeOf4
  have t64 := Tryd.underlying64; have a64 := Tryd.isAgg64; have v64 := Tryd.zeroValue64; have u64 := run_underlying Tryd.underlying64; have z64 := Tryd.sizeOf64
  have t66 := Tryd.underlying66; have a66 := Tryd.isAgg66; have v66 := Tryd.zeroValue66; have u66 := run_underlying Tryd.underlying66; have z66 := Tryd.sizeOf66
  have t83 := Tryd.underlying83; have a83 := Tryd.isAgg83; have v83 := Tryd.zeroValue83; have u83 := run_underlying Tryd.underlying83; have z83 := Tryd.sizeOf83
  go_enter Tryd.func51, Tryd.ntmps51
  go_wp2
  rw [Lib.run_neq_ptr_same w _ t64 hj]
  go_wp2
  go_end0
  exact ⟨rfl, rfl⟩
set_option maxHeartbeats 1000000 in
set_option maxRecDepth 100000 in
theorem Tryd.cc_fresh (b : Nat) (w : World) (h0 : w.cell? ⟨b, 0, none⟩ = some (.pointer none)) (hsh : w.shape? b = some (66, 2)) (hfz : w.frozen? ⟨b, 0, none⟩ = false) :
    Calls Tryd.prog 51 #[.pointer (some ⟨b, 0, none⟩)] w fun e w' => e = .returned (.tuple #[]) ∧ w' = w.setCell ⟨b, 0, none⟩ (.pointer (some ⟨b, 0, none⟩)) := by
  obtain ⟨j, hj, hjs⟩ := Option.map_eq_some_iff.1 Tryd.ccSize
  have mixed : Tryd.prog.follows .mixedOrders = true := by kernel_rfl
  have t4 := Tryd.underlying4; have a4 := Tryd.isAgg4; have v4 := Tryd.zeroValue4; have u4 := run_underlying Tryd.underlying4; have z4 := Tryd.sizeOf4
  have t64 := Tryd.underlying64; have a64 := Tryd.isAgg64; have v64 := Tryd.zeroValue64; have u64 := run_underlying Tryd.underlying64; have z64 := Tryd.sizeOf64
  have t66 := Tryd.underlying66; have a66 := Tryd.isAgg66; have v66 := Tryd.zeroValue66; have u66 := run_underlying Tryd.underlying66; have z66 := Tryd.sizeOf66
  have t83 := Tryd.underlying83; have a83 := Tryd.isAgg83; have v83 := Tryd.zeroValue83; have u83 := run_underlying Tryd.underlying83; have z83 := Tryd.sizeOf83
  go_enter Tryd.func51, Tryd.ntmps51
  go_wp2
  rw [Lib.run_to_unsafe w ⟨b, 0, none⟩ t64 t83 hj (by rw [hjs]; decide) hsh (Nat.zero_lt_succ 1)]
  simp only [Result.andThen]
  rw [Oper.upon_value]
  go_wp2
  rw [run_callFunc_extern Tryd.func61 (by kernel_rfl) (by kernel_rfl) (by kernel_rfl) (e := Extern.AbiNoEscape.same) (by kernel_rfl)]
  rw [Lib.run_noEscape]
  simp only [Result.andThen]
  rw [Oper.upon_value]
  go_wp2
  rw [Lib.run_from_unsafe w ⟨b, 0, none⟩ t83 t64 hj hsh Tryd.ccLies]
  simp only [Result.andThen]
  rw [Oper.upon_value]
  go_wp2
  go_end0
  exact ⟨rfl, rfl⟩
end Go.Proofs
