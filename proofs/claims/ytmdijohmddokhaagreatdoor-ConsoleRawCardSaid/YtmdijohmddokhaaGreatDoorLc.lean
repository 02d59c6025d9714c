/- The copy check of a builder, walked. No condition. -/
import Derived.Shelf.Strings.OnBuilder
import Derived.Test.YtmdijohmddokhaaGreatDoorProg
namespace Go.Proofs
open Go.Shelf Go.RowKit
theorem Tryz.ccSize:(Tryz.prog.info? 131).map (·.size)=some 2:=by kernel_rfl
theorem Tryz.ccLies:liesAt Tryz.prog Tryz.prog.depth 131 (2/Tryz.prog.cellsOf 131) 0 131 1=true:=by kernel_rfl
set_option maxHeartbeats 1000000 in
set_option maxRecDepth 100000 in
theorem Tryz.cc_used(b:Nat)(w:World)(h0:w.cell? ⟨b,0,none⟩=some (.pointer (some ⟨b,0,none⟩))):
    Calls Tryz.prog 131 #[.pointer (some ⟨b,0,none⟩)] w fun e w'=>e=.returned (.tuple #[])/\w'=w:=by
  obtain⟨j,hj,_⟩:=Option.map_eq_some_iff.1 Tryz.ccSize;have mixed:Tryz.prog.follows .mixedOrders=true:=by kernel_rfl
  have t4:=Tryz.underlying4; have a4:=Tryz.isAgg4; have v4:=Tryz.zeroValue4; have u4:=run_underlying Tryz.underlying4; have z4:=Tryz.sizeOf4;have t129:=Tryz.underlying129; have a129:=Tryz.isAgg129; have v129:=Tryz.zeroValue129; have u129:=run_underlying Tryz.underlying129; have z129:=Tryz.sizeOf129;have t131:=Tryz.underlying131; have a131:=Tryz.isAgg131; have v131:=Tryz.zeroValue131; have u131:=run_underlying Tryz.underlying131; have z131:=Tryz.sizeOf131;have t250:=Tryz.underlying250; have a250:=Tryz.isAgg250; have v250:=Tryz.zeroValue250; have u250:=run_underlying Tryz.underlying250; have z250:=Tryz.sizeOf250
  go_enter Tryz.func131,Tryz.ntmps131
  go_wp2
  rw[Lib.run_neq_ptr_same w _ t129 hj]
  go_wp2
  go_end0
  exact⟨rfl,rfl⟩
set_option maxHeartbeats 1000000 in
set_option maxRecDepth 100000 in
theorem Tryz.cc_fresh(b:Nat)(w:World)(h0:w.cell? ⟨b,0,none⟩=some (.pointer none))(hsh:w.shape? b=some (131,2))(hfz:w.frozen? ⟨b,0,none⟩=false):
    Calls Tryz.prog 131 #[.pointer (some ⟨b,0,none⟩)] w fun e w'=>e=.returned (.tuple #[])/\w'=w.setCell ⟨b,0,none⟩ (.pointer (some ⟨b,0,none⟩)):=by
  obtain⟨j,hj,hjs⟩:=Option.map_eq_some_iff.1 Tryz.ccSize;have mixed:Tryz.prog.follows .mixedOrders=true:=by kernel_rfl
  have t4:=Tryz.underlying4; have a4:=Tryz.isAgg4; have v4:=Tryz.zeroValue4; have u4:=run_underlying Tryz.underlying4; have z4:=Tryz.sizeOf4;have t129:=Tryz.underlying129; have a129:=Tryz.isAgg129; have v129:=Tryz.zeroValue129; have u129:=run_underlying Tryz.underlying129; have z129:=Tryz.sizeOf129;have t131:=Tryz.underlying131; have a131:=Tryz.isAgg131; have v131:=Tryz.zeroValue131; have u131:=run_underlying Tryz.underlying131; have z131:=Tryz.sizeOf131;have t250:=Tryz.underlying250; have a250:=Tryz.isAgg250; have v250:=Tryz.zeroValue250; have u250:=run_underlying Tryz.underlying250; have z250:=Tryz.sizeOf250
  go_enter Tryz.func131,Tryz.ntmps131
  go_wp2
  rw[Lib.run_to_unsafe w ⟨b,0,none⟩ t129 t250 hj (by rw[hjs]; decide) hsh (Nat.zero_lt_succ 1)]
  simp only[Result.andThen];rw[Oper.upon_value]
  go_wp2
  rw[run_callFunc_extern Tryz.func213 (by kernel_rfl) (by kernel_rfl) (by kernel_rfl) (e:=Extern.AbiNoEscape.same) (by kernel_rfl)]
  rw[Lib.run_noEscape];simp only[Result.andThen];rw[Oper.upon_value]
  go_wp2
  rw[Lib.run_from_unsafe w ⟨b,0,none⟩ t250 t129 hj hsh Tryz.ccLies];simp only[Result.andThen];rw[Oper.upon_value]
  go_wp2
  go_end0
  exact⟨rfl,rfl⟩
end Go.Proofs
