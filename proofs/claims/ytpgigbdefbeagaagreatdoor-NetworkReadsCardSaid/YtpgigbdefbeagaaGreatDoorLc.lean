/- The copy check of a builder, walked. No condition. -/
import Derived.Shelf.Strings.OnBuilder
import Derived.Test.YtpgigbdefbeagaaGreatDoorProg
namespace Go.Proofs
open Go.Shelf Go.RowKit
theorem Tryz.ccSize : (Tryz.prog.info? 117).map (·.size) = some 2 := by kernel_rfl
theorem Tryz.ccLies : liesAt Tryz.prog Tryz.prog.depth 117 (2 / Tryz.prog.cellsOf 117) 0 117 1 = true := by kernel_rfl
set_option maxHeartbeats 1000000 in
set_option maxRecDepth 100000 in
theorem Tryz.cc_used (b : Nat) (w : World) (h0 : w.cell? ⟨b, 0, none⟩ = some (.pointer (some ⟨b, 0, none⟩))) :
    Calls Tryz.prog 110 #[.pointer (some ⟨b, 0, none⟩)] w fun e w' => e = .returned (.tuple #[]) ∧ w' = w := by
  obtain ⟨j, hj, _⟩ := Option.map_eq_some_iff.1 Tryz.ccSize
  have mixed : Tryz.prog.follows .mixedOrders = true := by kernel_rfl
  have t4 := Tryz.underlying4; have a4 := Tryz.isAgg4; have v4 := Tryz.zeroValue4; have u4 := run_underlying Tryz.underlying4; have z4 := Tryz.sizeOf4
  have t115 := Tryz.underlying115; have a115 := Tryz.isAgg115; have v115 := Tryz.zeroValue115; have u115 := run_underlying Tryz.underlying115; have z115 := Tryz.sizeOf115
  have t117 := Tryz.underlying117; have a117 := Tryz.isAgg117; have v117 := Tryz.zeroValue117; have u117 := run_underlying Tryz.underlying117; have z117 := Tryz.sizeOf117
  have t135 := Tryz.underlying135; have a135 := Tryz.isAgg135; have v135 := Tryz.zeroValue135; have u135 := run_underlying Tryz.underlying135; have z135 := Tryz.sizeOf135
  go_enter Tryz.func110, Tryz.ntmps110
  go_wp2
  rw [Lib.run_neq_ptr_same w _ t115 hj]
  go_wp2
  go_end0
  exact ⟨rfl, rfl⟩
set_option maxHeartbeats 1000000 in
set_option maxRecDepth 100000 in
theorem Tryz.cc_fresh (b : Nat) (w : World) (h0 : w.cell? ⟨b, 0, none⟩ = some (.pointer none)) (hsh : w.shape? b = some (117, 2)) (hfz : w.frozen? ⟨b, 0, none⟩ = false) :
    Calls Tryz.prog 110 #[.pointer (some ⟨b, 0, none⟩)] w fun e w' => e = .returned (.tuple #[]) ∧ w' = w.setCell ⟨b, 0, none⟩ (.pointer (some ⟨b, 0, none⟩)) := by
  obtain ⟨j, hj, hjs⟩ := Option.map_eq_some_iff.1 Tryz.ccSize
  have mixed : Tryz.prog.follows .mixedOrders = true := by kernel_rfl
  have t4 := Tryz.underlying4; have a4 := Tryz.isAgg4; have v4 := Tryz.zeroValue4; have u4 := run_underlying Tryz.underlying4; have z4 := Tryz.sizeOf4
  have t115 := Tryz.underlying115; have a115 := Tryz.isAgg115; have v115 := Tryz.zeroValue115; have u115 := run_underlying Tryz.underlying115; have z115 := Tryz.sizeOf115
  have t117 := Tryz.underlying117; have a117 := Tryz.isAgg117; have v117 := Tryz.zeroValue117; have u117 := run_underlying Tryz.underlying117; have z117 := Tryz.sizeOf117
  have t135 := Tryz.underlying135; have a135 := Tryz.isAgg135; have v135 := Tryz.zeroValue135; have u135 := run_underlying Tryz.underlying135; have z135 := Tryz.sizeOf135
  go_enter Tryz.func110, Tryz.ntmps110
  go_wp2
  rw [Lib.run_to_unsafe w ⟨b, 0, none⟩ t115 t135 hj (by rw [hjs]; decide) hsh (Nat.zero_lt_succ 1)]
  simp only [Result.andThen]
  rw [Oper.upon_value]
  go_wp2
  rw [run_callFunc_extern Tryz.func119 (by kernel_rfl) (by kernel_rfl) (by kernel_rfl) (e := Extern.AbiNoEscape.same) (by kernel_rfl)]
  rw [Lib.run_noEscape]
  simp only [Result.andThen]
  rw [Oper.upon_value]
  go_wp2
  rw [Lib.run_from_unsafe w ⟨b, 0, none⟩ t135 t115 hj hsh Tryz.ccLies]
  simp only [Result.andThen]
  rw [Oper.upon_value]
  go_wp2
  go_end0
  exact ⟨rfl, rfl⟩
end Go.Proofs
