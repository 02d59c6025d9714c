/- Contracts of the valve package: each function of it returns what its Lean twin says. No condition. -/
import Derived.Test.YtjbfofiijdnbkaaRows
import Derived.Test.YtjbfofiijdnbkaaValP
namespace Go.Proofs.Ytjbfofiijdnbkaa
open Go Go.RowKit Go.Sp
set_option linter.unusedSimpArgs false
set_option linter.unusedVariables false
theorem nm19 : (Try.f19.name == "runtime.NumGoroutine") = false := by kernel_rfl
theorem fl26_0 : fieldT Try.prog 26 0 0 := ⟨_, _, 0, Try.underlying26, rfl, rfl, by unfold sizeT; kernel_rfl⟩
theorem sc3 : scalarT Try.prog 3 := ⟨_, Try.underlying3, rfl⟩
theorem fl26_1 : fieldT Try.prog 26 1 1 := ⟨_, _, 0, Try.underlying26, rfl, rfl, by unfold sizeT; kernel_rfl⟩
theorem nm26 : (Try.f26.name == "runtime.NumGoroutine") = false := by kernel_rfl
theorem fl26_2 : fieldT Try.prog 26 2 2 := ⟨_, _, 0, Try.underlying26, rfl, rfl, by unfold sizeT; kernel_rfl⟩
theorem sc4 : scalarT Try.prog 4 := ⟨_, Try.underlying4, rfl⟩
theorem nm27 : (Try.f27.name == "runtime.NumGoroutine") = false := by kernel_rfl
theorem ze26 : zeroT Try.prog 26 (.agg #[.int .i64 0, .int .i64 0, .bool false, .bool false]) := by unfold zeroT; kernel_rfl
theorem ag26 : aggT Try.prog 26 4 := ⟨⟨_, Try.underlying26, rfl⟩, by unfold sizeT; kernel_rfl⟩
theorem sz26 : sizeT Try.prog 26 4 := by unfold sizeT; kernel_rfl
theorem fl26_3 : fieldT Try.prog 26 3 3 := ⟨_, _, 0, Try.underlying26, rfl, rfl, by unfold sizeT; kernel_rfl⟩
theorem ef26 (x0 y0 : Int) (x1 y1 : Int) (x2 y2 : Bool) (x3 y3 : Bool) (w : World) : (Op.equalIn 10000 26 (.agg #[.int .i64 x0, .int .i64 x1, .bool x2, .bool x3]) (.agg #[.int .i64 y0, .int .i64 y1, .bool y2, .bool y3])).run Try.prog w = .ok (decide (x0 = y0) && (decide (x1 = y1) && ((x2 == y2) && ((x3 == y3) && true)))) w :=
  (run_equalIn_agg w 9999 26 _ _ Try.underlying26 Try.stoodInHeld26).trans (eqF_cons rfl (run_part1 sc3 rfl) (run_part1 sc3 rfl) (run_equalInt 9998 3 .i64 _ _ _ Try.underlying3) (eqF_cons rfl (run_part1 sc3 rfl) (run_part1 sc3 rfl) (run_equalInt 9998 3 .i64 _ _ _ Try.underlying3) (eqF_cons rfl (run_part1 sc4 rfl) (run_part1 sc4 rfl) (run_equalIn_bool' _ 9998 4 _ _ Try.underlying4) (eqF_cons rfl (run_part1 sc4 rfl) (run_part1 sc4 rfl) (run_equalIn_bool' _ 9998 4 _ _ Try.underlying4) (eqF_nil _ _ _)))))
theorem sz3 : sizeT Try.prog 3 1 := by unfold sizeT; kernel_rfl
theorem nm9 : (Try.f9.name == "runtime.NumGoroutine") = false := by kernel_rfl
theorem nm16 : (Try.f16.name == "runtime.NumGoroutine") = false := by kernel_rfl
theorem nm13 : (Try.f13.name == "runtime.NumGoroutine") = false := by kernel_rfl
theorem sz4 : sizeT Try.prog 4 1 := by unfold sizeT; kernel_rfl
theorem nm10 : (Try.f10.name == "runtime.NumGoroutine") = false := by kernel_rfl
theorem nm11 : (Try.f11.name == "runtime.NumGoroutine") = false := by kernel_rfl
theorem nm8 : (Try.f8.name == "runtime.NumGoroutine") = false := by kernel_rfl
theorem mx : Try.prog.follows .mixedOrders = true := by kernel_rfl
theorem nm20 : (Try.f20.name == "runtime.NumGoroutine") = false := by kernel_rfl
theorem nm21 : (Try.f21.name == "runtime.NumGoroutine") = false := by kernel_rfl
theorem nm22 : (Try.f22.name == "runtime.NumGoroutine") = false := by kernel_rfl
theorem nm15 : (Try.f15.name == "runtime.NumGoroutine") = false := by kernel_rfl
theorem nm17 : (Try.f17.name == "runtime.NumGoroutine") = false := by kernel_rfl
theorem nm28 : (Try.f28.name == "runtime.NumGoroutine") = false := by kernel_rfl
theorem nm29 : (Try.f29.name == "runtime.NumGoroutine") = false := by kernel_rfl
theorem fl41_1 : fieldT Try.prog 41 1 1 := ⟨_, _, 0, Try.underlying41, rfl, rfl, by unfold sizeT; kernel_rfl⟩
theorem fl41_0 : fieldT Try.prog 41 0 0 := ⟨_, _, 0, Try.underlying41, rfl, rfl, by unfold sizeT; kernel_rfl⟩
theorem sc22 : scalarT Try.prog 22 := ⟨_, Try.underlying22, rfl⟩
theorem el22 : elemT Try.prog 22 3 1 := ⟨Try.underlying22, by unfold sizeT; kernel_rfl⟩
theorem nm25 : (Try.f25.name == "runtime.NumGoroutine") = false := by kernel_rfl
theorem nm24 : (Try.f24.name == "runtime.NumGoroutine") = false := by kernel_rfl
theorem nm6 : (Try.f6.name == "runtime.NumGoroutine") = false := by kernel_rfl
theorem pl41 : placesT Try.prog 41 [(0, 1), (1, 1)] := ⟨_, Try.underlying41, by kernel_rfl⟩
theorem ze41 : zeroT Try.prog 41 (.agg #[.slice none 0 0, .int .i64 0]) := by unfold zeroT; kernel_rfl
theorem nm18 : (Try.f18.name == "runtime.NumGoroutine") = false := by kernel_rfl
theorem nm23 : (Try.f23.name == "runtime.NumGoroutine") = false := by kernel_rfl
theorem nm12 : (Try.f12.name == "runtime.NumGoroutine") = false := by kernel_rfl
theorem pl26 : placesT Try.prog 26 [(0, 1), (1, 1), (2, 1), (3, 1)] := ⟨_, Try.underlying26, by kernel_rfl⟩
theorem nm14 : (Try.f14.name == "runtime.NumGoroutine") = false := by kernel_rfl
theorem nm5 : (Try.f5.name == "runtime.NumGoroutine") = false := by kernel_rfl
theorem nm4 : (Try.f4.name == "runtime.NumGoroutine") = false := by kernel_rfl
theorem nm7 : (Try.f7.name == "runtime.NumGoroutine") = false := by kernel_rfl
theorem ze3 : zeroT Try.prog 3 (.int .i64 0) := by unfold zeroT; kernel_rfl
theorem nm3 : (Try.f3.name == "runtime.NumGoroutine") = false := by kernel_rfl

theorem valid_ok (v : Valve) : FnC Try.prog 19 [v.sv] (.b (validB v)) := by
  refine FnC.intro 23 Try.func19 rfl nm19 rfl lb (fun w F => ?_)
  refine W.seq ?_
  refine W.region ?_
  refine G.step (rd_boxS (b := 1) (cs := [.i _, .i _, .b _, .b _]) (by decide)) ⟨rfl, rfl, rfl⟩ ?_
  refine G.step (rd_assign (s := .b _) (by decide)) rfl ?_
  refine G.done ?_
  refine W.seq ?_
  refine W.region ?_
  refine G.step (rd_fieldP (by decide) fl26_0) rfl ?_
  refine G.step (rd_loadV (s := .i _) (by decide) sc3) ⟨rfl, rfl, lb, rfl⟩ ?_
  refine G.step (rd_geq (k := .i64) (by decide)) ⟨rfl, rfl⟩ ?_
  refine G.step (rd_move (s := .b _) (by decide)) rfl ?_
  refine G.step (rd_guard (ts := []) (rd_fieldP (by decide) fl26_0) rfl rfl rfl (by decide) (by decide)) ⟨rfl, trivial, fun hg => rfl⟩ ?_
  refine G.step (rd_guard (ts := [7]) (rd_loadV (s := .i _) (by decide) sc3) rfl rfl rfl (by decide) (by decide)) ⟨rfl, ⟨fun h => by first | exact h | simp_all, trivial⟩, fun hg => ⟨rfl, rfl, lb, rfl⟩⟩ ?_
  refine G.step (rd_guard (ts := [8]) (rd_leq (k := .i64) (by decide)) rfl rfl rfl (by decide) (by decide)) ⟨rfl, ⟨fun h => by first | exact h | simp_all, trivial⟩, fun hg => ⟨rfl, rfl⟩⟩ ?_
  refine G.step (rd_pickAnd (by decide)) ⟨rfl, rfl, fun hp => by first | (rw [hp]; rfl) | simp_all⟩ ?_
  refine G.step (rd_move (s := .b _) (by decide)) rfl ?_
  refine G.step (rd_guard (ts := []) (rd_fieldP (by decide) fl26_1) rfl rfl rfl (by decide) (by decide)) ⟨rfl, trivial, fun hg => rfl⟩ ?_
  refine G.step (rd_guard (ts := [12]) (rd_loadV (s := .i _) (by decide) sc3) rfl rfl rfl (by decide) (by decide)) ⟨rfl, ⟨fun h => by first | exact h | simp_all, trivial⟩, fun hg => ⟨rfl, rfl, lb, rfl⟩⟩ ?_
  refine G.step (rd_guard (ts := [13]) (rd_geq (k := .i64) (by decide)) rfl rfl rfl (by decide) (by decide)) ⟨rfl, ⟨fun h => by first | exact h | simp_all, trivial⟩, fun hg => ⟨rfl, rfl⟩⟩ ?_
  refine G.step (rd_pickAnd (by decide)) ⟨rfl, rfl, fun hp => by first | (rw [hp]; rfl) | simp_all⟩ ?_
  refine G.step (rd_move (s := .b _) (by decide)) rfl ?_
  refine G.step (rd_guard (ts := []) (rd_fieldP (by decide) fl26_1) rfl rfl rfl (by decide) (by decide)) ⟨rfl, trivial, fun hg => rfl⟩ ?_
  refine G.step (rd_guard (ts := [17]) (rd_loadV (s := .i _) (by decide) sc3) rfl rfl rfl (by decide) (by decide)) ⟨rfl, ⟨fun h => by first | exact h | simp_all, trivial⟩, fun hg => ⟨rfl, rfl, lb, rfl⟩⟩ ?_
  refine G.step (rd_guard (ts := []) (rd_fieldP (by decide) fl26_0) rfl rfl rfl (by decide) (by decide)) ⟨rfl, trivial, fun hg => rfl⟩ ?_
  refine G.step (rd_guard (ts := [19]) (rd_loadV (s := .i _) (by decide) sc3) rfl rfl rfl (by decide) (by decide)) ⟨rfl, ⟨fun h => by first | exact h | simp_all, trivial⟩, fun hg => ⟨rfl, rfl, lb, rfl⟩⟩ ?_
  refine G.step (rd_guard (ts := [18, 20]) (rd_leq (k := .i64) (by decide)) rfl rfl rfl (by decide) (by decide)) ⟨rfl, ⟨fun h => by first | exact h | simp_all, fun h => by first | exact h | simp_all, trivial⟩, fun hg => ⟨rfl, rfl⟩⟩ ?_
  refine G.step (rd_pickAnd (by decide)) ⟨rfl, rfl, fun hp => by first | (rw [hp]; rfl) | simp_all⟩ ?_
  refine G.step (rd_assign (s := .b _) (by decide)) rfl ?_
  refine G.done ?_
  refine W.ret (RetQ.mk (ss := [.b _]) ⟨rfl, trivial⟩ ?_ rfl)
  simp [resOf, validB, Bool.and_assoc]

theorem goal_ok (v : Valve) : FnC Try.prog 26 [v.sv] (.i (goalI v)) := by
  refine FnC.intro 7 Try.func26 rfl nm26 rfl lb (fun w F => ?_)
  refine W.seq ?_
  refine W.region ?_
  refine G.step (rd_boxS (b := 1) (cs := [.i _, .i _, .b _, .b _]) (by decide)) ⟨rfl, rfl, rfl⟩ ?_
  refine G.step (rd_assign (s := .i _) (by decide)) rfl ?_
  refine G.done ?_
  refine W.seq ?_
  refine W.seq ?_
  refine W.region ?_
  refine G.step (rd_fieldP (by decide) fl26_2) rfl ?_
  refine G.step (rd_loadV (s := .b _) (by decide) sc4) ⟨rfl, rfl, lb, rfl⟩ ?_
  refine G.done ?_
  refine W.cond (t := _) rfl (fun h0 => ?_) (fun h0 => ?_)
  · (try simp only [Bool.and_eq_true, Bool.or_eq_true, Bool.not_eq_true', Bool.not_eq_false', Bool.and_eq_false_iff, Bool.or_eq_false_iff, decide_eq_true_eq, decide_eq_false_iff_not, beq_iff_eq, bne_iff_ne, Bool.not_true, Bool.not_false, Bool.not_not, beq_eq_false_iff_ne] at h0)
    refine W.seq ?_
    refine W.region ?_
    refine G.step (rd_fieldP (by decide) fl26_0) rfl ?_
    refine G.step (rd_loadV (s := .i _) (by decide) sc3) ⟨rfl, rfl, lb, rfl⟩ ?_
    refine G.step (rd_assign (s := .i _) (by decide)) rfl ?_
    refine G.done ?_
    refine W.ret (RetQ.mk (ss := [.i _]) ⟨rfl, trivial⟩ ?_ rfl)
    simp_all [resOf, goalI]
  · (try simp only [Bool.and_eq_true, Bool.or_eq_true, Bool.not_eq_true', Bool.not_eq_false', Bool.and_eq_false_iff, Bool.or_eq_false_iff, decide_eq_true_eq, decide_eq_false_iff_not, beq_iff_eq, bne_iff_ne, Bool.not_true, Bool.not_false, Bool.not_not, beq_eq_false_iff_ne] at h0)
    refine W.skip ?_
    refine W.seq ?_
    refine W.region ?_
    refine G.step (rd_assign (s := .i _) (by decide)) rfl ?_
    refine G.done ?_
    refine W.ret (RetQ.mk (ss := [.i _]) ⟨rfl, trivial⟩ ?_ rfl)
    simp_all [resOf, goalI]

theorem moved_ok (v : Valve) (n : Int) (hv : validB v = true) (h0 : 0 ≤ n) (h1 : n ≤ 400) : FnC Try.prog 27 [v.sv, .i n] ((movedV v n).sv) := by
  obtain ⟨hb1, hb2, hb3, hb4⟩ := valid_bd hv
  obtain ⟨hg1, hg2⟩ := goal_bd hv
  clear hv
  refine FnC.intro 37 Try.func27 rfl nm27 rfl lb (fun w F => ?_)
  refine W.seq ?_
  refine W.region ?_
  refine G.step (rd_boxS (b := 2) (cs := [.i _, .i _, .b _, .b _]) (by decide)) ⟨rfl, rfl, rfl⟩ ?_
  refine G.step (rd_alloc (b := 4) (cs := [.val (.int .i64 0), .val (.int .i64 0), .val (.bool false), .val (.bool false)]) (by decide) ze26 (⟨.inl ⟨rfl, rfl⟩, ⟨.inl ⟨rfl, rfl⟩, ⟨.inl ⟨rfl, rfl⟩, ⟨.inl ⟨rfl, rfl⟩, trivial⟩⟩⟩⟩)) rfl ?_
  refine G.done ?_
  refine W.seq ?_
  refine W.region ?_
  refine G.step (rd_loadVS (cs := [.i _, .i _, .b _, .b _]) (by decide) ag26) ⟨rfl, rfl, ⟨lb, rfl⟩, ⟨rfl, rfl, rfl, rfl, trivial⟩⟩ ?_
  refine G.step (rd_alloc (b := 5) (cs := [.val (.int .i64 0), .val (.int .i64 0), .val (.bool false), .val (.bool false)]) (by decide) ze26 (⟨.inl ⟨rfl, rfl⟩, ⟨.inl ⟨rfl, rfl⟩, ⟨.inl ⟨rfl, rfl⟩, ⟨.inl ⟨rfl, rfl⟩, trivial⟩⟩⟩⟩)) rfl ?_
  refine G.step (rd_storeVS (cs := [.i _, .i _, .b _, .b _]) sz26) ⟨rfl, rfl, rfl, lb, rfl, rfl⟩ ?_
  refine G.done ?_
  refine W.seq ?_
  refine W.seq ?_
  refine W.region ?_
  refine G.step (rd_loadVS (cs := [.i _, .i _, .b _, .b _]) (by decide) ag26) ⟨rfl, rfl, ⟨lb, rfl⟩, ⟨rfl, rfl, rfl, rfl, trivial⟩⟩ ?_
  refine G.step (rd_call (xs := [.tmp 8]) (by decide) (goal_ok _)) ⟨⟨rfl, trivial⟩, rfl⟩ ?_
  refine G.step (rd_assign (s := .i _) (by decide)) rfl ?_
  refine G.done ?_
  refine W.block ?_
  refine W.seq ?_
  refine W.region ?_
  refine G.step (rd_fieldP (by decide) fl26_3) rfl ?_
  refine G.step (rd_loadV (s := .b _) (by decide) sc4) ⟨rfl, rfl, lb, rfl⟩ ?_
  refine G.step (rd_assign (s := .b _) (by decide)) rfl ?_
  refine G.done ?_
  refine W.cond (t := _) rfl (fun h0 => ?_) (fun h0 => ?_)
  · (try simp only [Bool.and_eq_true, Bool.or_eq_true, Bool.not_eq_true', Bool.not_eq_false', Bool.and_eq_false_iff, Bool.or_eq_false_iff, decide_eq_true_eq, decide_eq_false_iff_not, beq_iff_eq, bne_iff_ne, Bool.not_true, Bool.not_false, Bool.not_not, beq_eq_false_iff_ne] at h0)
    refine W.skip ?_
    refine W.seq ?_
    refine W.seq ?_
    refine W.region ?_
    refine G.step (rd_loadVS (cs := [.i _, .i _, .b _, .b _]) (by decide) ag26) ⟨rfl, rfl, ⟨lb, rfl⟩, ⟨rfl, rfl, rfl, rfl, trivial⟩⟩ ?_
    refine G.step (rd_loadVS (cs := [.i _, .i _, .b _, .b _]) (by decide) ag26) ⟨rfl, rfl, ⟨lb, rfl⟩, ⟨rfl, rfl, rfl, rfl, trivial⟩⟩ ?_
    refine G.step (rd_eqlS (xs := [.int .i64 _, .int .i64 _, .bool _, .bool _]) (ys := [.int .i64 _, .int .i64 _, .bool _, .bool _]) (by decide) Try.eqGuardType26 (fun w => ef26 _ _ _ _ _ _ _ _ w)) ⟨rfl, rfl⟩ ?_
    refine G.done ?_
    refine W.cond (t := _) rfl (fun h1 => ?_) (fun h1 => ?_)
    · (try simp only [Bool.and_eq_true, Bool.or_eq_true, Bool.not_eq_true', Bool.not_eq_false', Bool.and_eq_false_iff, Bool.or_eq_false_iff, decide_eq_true_eq, decide_eq_false_iff_not, beq_iff_eq, bne_iff_ne, Bool.not_true, Bool.not_false, Bool.not_not, beq_eq_false_iff_ne] at h1)
      refine W.seq ?_
      refine W.region ?_
      refine G.step (rd_loadVS (cs := [.i _, .i _, .b _, .b _]) (by decide) ag26) ⟨rfl, rfl, ⟨lb, rfl⟩, ⟨rfl, rfl, rfl, rfl, trivial⟩⟩ ?_
      refine G.step (rd_storeVS (cs := [.i _, .i _, .b _, .b _]) sz26) ⟨rfl, rfl, rfl, lb, rfl, rfl⟩ ?_
      refine G.done ?_
      refine W.ret (RetQ.mk (ss := [.agg [.i _, .i _, .b _, .b _]]) ⟨⟨_, _, _, _, [.i _, .i _, .b _, .b _], rfl, rfl, ag26, lb, ⟨rfl, rfl, rfl, rfl, trivial⟩, rfl⟩, trivial⟩ ?_ rfl)
      simp_all [resOf, movedV, Valve.sv]; try (split <;> simp_all <;> omega)
    · (try simp only [Bool.and_eq_true, Bool.or_eq_true, Bool.not_eq_true', Bool.not_eq_false', Bool.and_eq_false_iff, Bool.or_eq_false_iff, decide_eq_true_eq, decide_eq_false_iff_not, beq_iff_eq, bne_iff_ne, Bool.not_true, Bool.not_false, Bool.not_not, beq_eq_false_iff_ne] at h1)
      refine W.skip ?_
      refine W.seq ?_
      refine W.region ?_
      refine G.step (rd_loadVS (cs := [.i _, .i _, .b _, .b _]) (by decide) ag26) ⟨rfl, rfl, ⟨lb, rfl⟩, ⟨rfl, rfl, rfl, rfl, trivial⟩⟩ ?_
      refine G.step (rd_storeVS (cs := [.i _, .i _, .b _, .b _]) sz26) ⟨rfl, rfl, rfl, lb, rfl, rfl⟩ ?_
      refine G.done ?_
      refine W.ret (RetQ.mk (ss := [.agg [.i _, .i _, .b _, .b _]]) ⟨⟨_, _, _, _, [.i _, .i _, .b _, .b _], rfl, rfl, ag26, lb, ⟨rfl, rfl, rfl, rfl, trivial⟩, rfl⟩, trivial⟩ ?_ rfl)
      simp_all [resOf, movedV, Valve.sv]; try (split <;> simp_all <;> omega)
  · (try simp only [Bool.and_eq_true, Bool.or_eq_true, Bool.not_eq_true', Bool.not_eq_false', Bool.and_eq_false_iff, Bool.or_eq_false_iff, decide_eq_true_eq, decide_eq_false_iff_not, beq_iff_eq, bne_iff_ne, Bool.not_true, Bool.not_false, Bool.not_not, beq_eq_false_iff_ne] at h0)
    refine W.seq ?_
    refine W.region ?_
    refine G.step (rd_fieldP (by decide) fl26_1) rfl ?_
    refine G.step (rd_loadV (s := .i _) (by decide) sc3) ⟨rfl, rfl, lb, rfl⟩ ?_
    refine G.step (rd_move (s := .i _) (by decide)) rfl ?_
    refine G.step (rd_lss (k := .i64) (by decide)) ⟨rfl, rfl⟩ ?_
    refine G.step (rd_assign (s := .b _) (by decide)) rfl ?_
    refine G.done ?_
    refine W.cond (t := _) rfl (fun h2 => ?_) (fun h2 => ?_)
    · (try simp only [Bool.and_eq_true, Bool.or_eq_true, Bool.not_eq_true', Bool.not_eq_false', Bool.and_eq_false_iff, Bool.or_eq_false_iff, decide_eq_true_eq, decide_eq_false_iff_not, beq_iff_eq, bne_iff_ne, Bool.not_true, Bool.not_false, Bool.not_not, beq_eq_false_iff_ne] at h2)
      refine W.region ?_
      refine G.step (rd_move (s := .i _) (by decide)) rfl ?_
      refine G.step (rd_fieldP (by decide) fl26_1) rfl ?_
      refine G.step (rd_loadV (s := .i _) (by decide) sc3) ⟨rfl, rfl, lb, rfl⟩ ?_
      refine G.step (rd_move (s := .i _) (by decide)) rfl ?_
      refine G.step (rd_add (by decide)) ⟨rfl, rfl, (by first | omega | (simp_all; done) | (simp_all; omega))⟩ ?_
      refine G.step (rd_min (by decide)) ⟨rfl, rfl⟩ ?_
      refine G.step (rd_fieldP (by decide) fl26_1) rfl ?_
      refine G.step (rd_storeV (s := .i _) sz3) ⟨rfl, rfl, rfl, lb, rfl⟩ ?_
      refine G.done ?_
      refine W.seq ?_
      refine W.seq ?_
      refine W.region ?_
      refine G.step (rd_loadVS (cs := [.i _, .i _, .b _, .b _]) (by decide) ag26) ⟨rfl, rfl, ⟨lb, rfl⟩, ⟨rfl, rfl, rfl, rfl, trivial⟩⟩ ?_
      refine G.step (rd_loadVS (cs := [.i _, .i _, .b _, .b _]) (by decide) ag26) ⟨rfl, rfl, ⟨lb, rfl⟩, ⟨rfl, rfl, rfl, rfl, trivial⟩⟩ ?_
      refine G.step (rd_eqlS (xs := [.int .i64 _, .int .i64 _, .bool _, .bool _]) (ys := [.int .i64 _, .int .i64 _, .bool _, .bool _]) (by decide) Try.eqGuardType26 (fun w => ef26 _ _ _ _ _ _ _ _ w)) ⟨rfl, rfl⟩ ?_
      refine G.done ?_
      refine W.cond (t := _) rfl (fun h3 => ?_) (fun h3 => ?_)
      · (try simp only [Bool.and_eq_true, Bool.or_eq_true, Bool.not_eq_true', Bool.not_eq_false', Bool.and_eq_false_iff, Bool.or_eq_false_iff, decide_eq_true_eq, decide_eq_false_iff_not, beq_iff_eq, bne_iff_ne, Bool.not_true, Bool.not_false, Bool.not_not, beq_eq_false_iff_ne] at h3)
        refine W.seq ?_
        refine W.region ?_
        refine G.step (rd_loadVS (cs := [.i _, .i _, .b _, .b _]) (by decide) ag26) ⟨rfl, rfl, ⟨lb, rfl⟩, ⟨rfl, rfl, rfl, rfl, trivial⟩⟩ ?_
        refine G.step (rd_storeVS (cs := [.i _, .i _, .b _, .b _]) sz26) ⟨rfl, rfl, rfl, lb, rfl, rfl⟩ ?_
        refine G.done ?_
        refine W.ret (RetQ.mk (ss := [.agg [.i _, .i _, .b _, .b _]]) ⟨⟨_, _, _, _, [.i _, .i _, .b _, .b _], rfl, rfl, ag26, lb, ⟨rfl, rfl, rfl, rfl, trivial⟩, rfl⟩, trivial⟩ ?_ rfl)
        simp_all [resOf, movedV, Valve.sv]; try (split <;> simp_all <;> omega)
      · (try simp only [Bool.and_eq_true, Bool.or_eq_true, Bool.not_eq_true', Bool.not_eq_false', Bool.and_eq_false_iff, Bool.or_eq_false_iff, decide_eq_true_eq, decide_eq_false_iff_not, beq_iff_eq, bne_iff_ne, Bool.not_true, Bool.not_false, Bool.not_not, beq_eq_false_iff_ne] at h3)
        refine W.skip ?_
        refine W.seq ?_
        refine W.region ?_
        refine G.step (rd_loadVS (cs := [.i _, .i _, .b _, .b _]) (by decide) ag26) ⟨rfl, rfl, ⟨lb, rfl⟩, ⟨rfl, rfl, rfl, rfl, trivial⟩⟩ ?_
        refine G.step (rd_storeVS (cs := [.i _, .i _, .b _, .b _]) sz26) ⟨rfl, rfl, rfl, lb, rfl, rfl⟩ ?_
        refine G.done ?_
        refine W.ret (RetQ.mk (ss := [.agg [.i _, .i _, .b _, .b _]]) ⟨⟨_, _, _, _, [.i _, .i _, .b _, .b _], rfl, rfl, ag26, lb, ⟨rfl, rfl, rfl, rfl, trivial⟩, rfl⟩, trivial⟩ ?_ rfl)
        simp_all [resOf, movedV, Valve.sv]; try (split <;> simp_all <;> omega)
    · (try simp only [Bool.and_eq_true, Bool.or_eq_true, Bool.not_eq_true', Bool.not_eq_false', Bool.and_eq_false_iff, Bool.or_eq_false_iff, decide_eq_true_eq, decide_eq_false_iff_not, beq_iff_eq, bne_iff_ne, Bool.not_true, Bool.not_false, Bool.not_not, beq_eq_false_iff_ne] at h2)
      refine W.region ?_
      refine G.step (rd_move (s := .i _) (by decide)) rfl ?_
      refine G.step (rd_fieldP (by decide) fl26_1) rfl ?_
      refine G.step (rd_loadV (s := .i _) (by decide) sc3) ⟨rfl, rfl, lb, rfl⟩ ?_
      refine G.step (rd_move (s := .i _) (by decide)) rfl ?_
      refine G.step (rd_sub (by decide)) ⟨rfl, rfl, (by first | omega | (simp_all; done) | (simp_all; omega))⟩ ?_
      refine G.step (rd_max (by decide)) ⟨rfl, rfl⟩ ?_
      refine G.step (rd_fieldP (by decide) fl26_1) rfl ?_
      refine G.step (rd_storeV (s := .i _) sz3) ⟨rfl, rfl, rfl, lb, rfl⟩ ?_
      refine G.done ?_
      refine W.seq ?_
      refine W.seq ?_
      refine W.region ?_
      refine G.step (rd_loadVS (cs := [.i _, .i _, .b _, .b _]) (by decide) ag26) ⟨rfl, rfl, ⟨lb, rfl⟩, ⟨rfl, rfl, rfl, rfl, trivial⟩⟩ ?_
      refine G.step (rd_loadVS (cs := [.i _, .i _, .b _, .b _]) (by decide) ag26) ⟨rfl, rfl, ⟨lb, rfl⟩, ⟨rfl, rfl, rfl, rfl, trivial⟩⟩ ?_
      refine G.step (rd_eqlS (xs := [.int .i64 _, .int .i64 _, .bool _, .bool _]) (ys := [.int .i64 _, .int .i64 _, .bool _, .bool _]) (by decide) Try.eqGuardType26 (fun w => ef26 _ _ _ _ _ _ _ _ w)) ⟨rfl, rfl⟩ ?_
      refine G.done ?_
      refine W.cond (t := _) rfl (fun h4 => ?_) (fun h4 => ?_)
      · (try simp only [Bool.and_eq_true, Bool.or_eq_true, Bool.not_eq_true', Bool.not_eq_false', Bool.and_eq_false_iff, Bool.or_eq_false_iff, decide_eq_true_eq, decide_eq_false_iff_not, beq_iff_eq, bne_iff_ne, Bool.not_true, Bool.not_false, Bool.not_not, beq_eq_false_iff_ne] at h4)
        refine W.seq ?_
        refine W.region ?_
        refine G.step (rd_loadVS (cs := [.i _, .i _, .b _, .b _]) (by decide) ag26) ⟨rfl, rfl, ⟨lb, rfl⟩, ⟨rfl, rfl, rfl, rfl, trivial⟩⟩ ?_
        refine G.step (rd_storeVS (cs := [.i _, .i _, .b _, .b _]) sz26) ⟨rfl, rfl, rfl, lb, rfl, rfl⟩ ?_
        refine G.done ?_
        refine W.ret (RetQ.mk (ss := [.agg [.i _, .i _, .b _, .b _]]) ⟨⟨_, _, _, _, [.i _, .i _, .b _, .b _], rfl, rfl, ag26, lb, ⟨rfl, rfl, rfl, rfl, trivial⟩, rfl⟩, trivial⟩ ?_ rfl)
        simp_all [resOf, movedV, Valve.sv]; try (split <;> simp_all <;> omega)
      · (try simp only [Bool.and_eq_true, Bool.or_eq_true, Bool.not_eq_true', Bool.not_eq_false', Bool.and_eq_false_iff, Bool.or_eq_false_iff, decide_eq_true_eq, decide_eq_false_iff_not, beq_iff_eq, bne_iff_ne, Bool.not_true, Bool.not_false, Bool.not_not, beq_eq_false_iff_ne] at h4)
        refine W.skip ?_
        refine W.seq ?_
        refine W.region ?_
        refine G.step (rd_loadVS (cs := [.i _, .i _, .b _, .b _]) (by decide) ag26) ⟨rfl, rfl, ⟨lb, rfl⟩, ⟨rfl, rfl, rfl, rfl, trivial⟩⟩ ?_
        refine G.step (rd_storeVS (cs := [.i _, .i _, .b _, .b _]) sz26) ⟨rfl, rfl, rfl, lb, rfl, rfl⟩ ?_
        refine G.done ?_
        refine W.ret (RetQ.mk (ss := [.agg [.i _, .i _, .b _, .b _]]) ⟨⟨_, _, _, _, [.i _, .i _, .b _, .b _], rfl, rfl, ag26, lb, ⟨rfl, rfl, rfl, rfl, trivial⟩, rfl⟩, trivial⟩ ?_ rfl)
        simp_all [resOf, movedV, Valve.sv]; try (split <;> simp_all <;> omega)

theorem pass_ok (v : Valve) (n : Int) : FnC Try.prog 9 [v.sv, .i n] (.tup [(passV v n).1.sv, .i (passV v n).2]) := by
  refine FnC.intro 22 Try.func9 rfl nm9 rfl lb (fun w F => ?_)
  refine W.seq ?_
  refine W.region ?_
  refine G.step (rd_boxS (b := 2) (cs := [.i _, .i _, .b _, .b _]) (by decide)) ⟨rfl, rfl, rfl⟩ ?_
  refine G.step (rd_alloc (b := 4) (cs := [.val (.int .i64 0), .val (.int .i64 0), .val (.bool false), .val (.bool false)]) (by decide) ze26 (⟨.inl ⟨rfl, rfl⟩, ⟨.inl ⟨rfl, rfl⟩, ⟨.inl ⟨rfl, rfl⟩, ⟨.inl ⟨rfl, rfl⟩, trivial⟩⟩⟩⟩)) rfl ?_
  refine G.step (rd_assign (s := .i _) (by decide)) rfl ?_
  refine G.done ?_
  refine W.seq ?_
  refine W.block ?_
  refine W.seq ?_
  refine W.region ?_
  refine G.step (rd_loadVS (cs := [.i _, .i _, .b _, .b _]) (by decide) ag26) ⟨rfl, rfl, ⟨lb, rfl⟩, ⟨rfl, rfl, rfl, rfl, trivial⟩⟩ ?_
  refine G.step (rd_call (xs := [.tmp 7]) (by decide) (valid_ok _)) ⟨⟨rfl, trivial⟩, rfl⟩ ?_
  refine G.step (rd_not (by decide)) rfl ?_
  refine G.step (rd_assign (s := .b _) (by decide)) rfl ?_
  refine G.done ?_
  refine W.cond (t := _) rfl (fun h0 => ?_) (fun h0 => ?_)
  · (try simp only [Bool.and_eq_true, Bool.or_eq_true, Bool.not_eq_true', Bool.not_eq_false', Bool.and_eq_false_iff, Bool.or_eq_false_iff, decide_eq_true_eq, decide_eq_false_iff_not, beq_iff_eq, bne_iff_ne, Bool.not_true, Bool.not_false, Bool.not_not, beq_eq_false_iff_ne] at h0)
    refine W.seq ?_
    refine W.region ?_
    refine G.step (rd_loadVS (cs := [.i _, .i _, .b _, .b _]) (by decide) ag26) ⟨rfl, rfl, ⟨lb, rfl⟩, ⟨rfl, rfl, rfl, rfl, trivial⟩⟩ ?_
    refine G.step (rd_storeVS (cs := [.i _, .i _, .b _, .b _]) sz26) ⟨rfl, rfl, rfl, lb, rfl, rfl⟩ ?_
    refine G.step (rd_assign (s := .i _) (by decide)) rfl ?_
    refine G.done ?_
    refine W.ret (RetQ.mk (ss := [.agg [.i _, .i _, .b _, .b _], .i _]) ⟨⟨_, _, _, _, [.i _, .i _, .b _, .b _], rfl, rfl, ag26, lb, ⟨rfl, rfl, rfl, rfl, trivial⟩, rfl⟩, rfl, trivial⟩ ?_ rfl)
    simp_all [resOf, passV, Valve.sv]; try (rw [if_neg (by omega)]; simp)
  · (try simp only [Bool.and_eq_true, Bool.or_eq_true, Bool.not_eq_true', Bool.not_eq_false', Bool.and_eq_false_iff, Bool.or_eq_false_iff, decide_eq_true_eq, decide_eq_false_iff_not, beq_iff_eq, bne_iff_ne, Bool.not_true, Bool.not_false, Bool.not_not, beq_eq_false_iff_ne] at h0)
    refine W.seq ?_
    refine W.region ?_
    refine G.step (rd_move (s := .i _) (by decide)) rfl ?_
    refine G.step (rd_lss (k := .i64) (by decide)) ⟨rfl, rfl⟩ ?_
    refine G.step (rd_move (s := .b _) (by decide)) rfl ?_
    refine G.step (rd_guard (ts := []) (rd_move (s := .i _) (by decide)) rfl rfl rfl (by decide) (by decide)) ⟨rfl, trivial, fun hg => rfl⟩ ?_
    refine G.step (rd_guard (ts := [15]) (rd_gtr (k := .i64) (by decide)) rfl rfl rfl (by decide) (by decide)) ⟨rfl, ⟨fun h => by first | exact h | simp_all, trivial⟩, fun hg => ⟨rfl, rfl⟩⟩ ?_
    refine G.step (rd_pickOr (by decide)) ⟨rfl, rfl, fun hp => by first | (rw [hp]; rfl) | simp_all⟩ ?_
    refine G.step (rd_assign (s := .b _) (by decide)) rfl ?_
    refine G.done ?_
    refine W.cond (t := _) rfl (fun h1 => ?_) (fun h1 => ?_)
    · (try simp only [Bool.and_eq_true, Bool.or_eq_true, Bool.not_eq_true', Bool.not_eq_false', Bool.and_eq_false_iff, Bool.or_eq_false_iff, decide_eq_true_eq, decide_eq_false_iff_not, beq_iff_eq, bne_iff_ne, Bool.not_true, Bool.not_false, Bool.not_not, beq_eq_false_iff_ne] at h1)
      refine W.seq ?_
      refine W.region ?_
      refine G.step (rd_loadVS (cs := [.i _, .i _, .b _, .b _]) (by decide) ag26) ⟨rfl, rfl, ⟨lb, rfl⟩, ⟨rfl, rfl, rfl, rfl, trivial⟩⟩ ?_
      refine G.step (rd_storeVS (cs := [.i _, .i _, .b _, .b _]) sz26) ⟨rfl, rfl, rfl, lb, rfl, rfl⟩ ?_
      refine G.step (rd_assign (s := .i _) (by decide)) rfl ?_
      refine G.done ?_
      refine W.ret (RetQ.mk (ss := [.agg [.i _, .i _, .b _, .b _], .i _]) ⟨⟨_, _, _, _, [.i _, .i _, .b _, .b _], rfl, rfl, ag26, lb, ⟨rfl, rfl, rfl, rfl, trivial⟩, rfl⟩, rfl, trivial⟩ ?_ rfl)
      simp_all [resOf, passV, Valve.sv]; try (rw [if_neg (by omega)]; simp)
    · (try simp only [Bool.and_eq_true, Bool.or_eq_true, Bool.not_eq_true', Bool.not_eq_false', Bool.and_eq_false_iff, Bool.or_eq_false_iff, decide_eq_true_eq, decide_eq_false_iff_not, beq_iff_eq, bne_iff_ne, Bool.not_true, Bool.not_false, Bool.not_not, beq_eq_false_iff_ne] at h1)
      refine W.skip ?_
      refine W.seq ?_
      refine W.region ?_
      refine G.step (rd_loadVS (cs := [.i _, .i _, .b _, .b _]) (by decide) ag26) ⟨rfl, rfl, ⟨lb, rfl⟩, ⟨rfl, rfl, rfl, rfl, trivial⟩⟩ ?_
      refine G.step (rd_move (s := .i _) (by decide)) rfl ?_
      refine G.step (rd_call (xs := [.tmp 19, .tmp 20]) (by decide) (moved_ok _ _ (by simp_all) (by omega) (by omega))) ⟨⟨rfl, rfl, trivial⟩, rfl⟩ ?_
      refine G.step (rd_storeVS (cs := [.i _, .i _, .b _, .b _]) sz26) ⟨rfl, rfl, rfl, lb, rfl, rfl⟩ ?_
      refine G.step (rd_assign (s := .i _) (by decide)) rfl ?_
      refine G.done ?_
      refine W.ret (RetQ.mk (ss := [.agg [.i _, .i _, .b _, .b _], .i _]) ⟨⟨_, _, _, _, [.i _, .i _, .b _, .b _], rfl, rfl, ag26, lb, ⟨rfl, rfl, rfl, rfl, trivial⟩, rfl⟩, rfl, trivial⟩ ?_ rfl)
      simp_all [resOf, passV, Valve.sv]; try (rw [if_neg (by omega)]; simp)

theorem step_ok (v : Valve) : FnC Try.prog 16 [v.sv] (.tup [(passV v 1).1.sv, .i (passV v 1).2]) := by
  refine FnC.intro 8 Try.func16 rfl nm16 rfl lb (fun w F => ?_)
  refine W.seq ?_
  refine W.region ?_
  refine G.step (rd_boxS (b := 1) (cs := [.i _, .i _, .b _, .b _]) (by decide)) ⟨rfl, rfl, rfl⟩ ?_
  refine G.step (rd_alloc (b := 2) (cs := [.val (.int .i64 0), .val (.int .i64 0), .val (.bool false), .val (.bool false)]) (by decide) ze26 (⟨.inl ⟨rfl, rfl⟩, ⟨.inl ⟨rfl, rfl⟩, ⟨.inl ⟨rfl, rfl⟩, ⟨.inl ⟨rfl, rfl⟩, trivial⟩⟩⟩⟩)) rfl ?_
  refine G.step (rd_assign (s := .i _) (by decide)) rfl ?_
  refine G.done ?_
  refine W.seq ?_
  refine W.region ?_
  refine G.step (rd_loadVS (cs := [.i _, .i _, .b _, .b _]) (by decide) ag26) ⟨rfl, rfl, ⟨lb, rfl⟩, ⟨rfl, rfl, rfl, rfl, trivial⟩⟩ ?_
  refine G.step (rd_call (xs := [.tmp 4, .const (.int .i64 1)]) (by decide) (pass_ok _ _)) ⟨⟨rfl, rfl, trivial⟩, rfl⟩ ?_
  refine G.step (rd_extract (s := .agg [.i _, .i _, .b _, .b _]) (by decide)) ⟨rfl, rfl⟩ ?_
  refine G.step (rd_extract (s := .i _) (by decide)) ⟨rfl, rfl⟩ ?_
  refine G.step (rd_storeVS (cs := [.i _, .i _, .b _, .b _]) sz26) ⟨rfl, rfl, rfl, lb, rfl, rfl⟩ ?_
  refine G.step (rd_assign (s := .i _) (by decide)) rfl ?_
  refine G.done ?_
  refine W.ret (RetQ.mk (ss := [.agg [.i _, .i _, .b _, .b _], .i _]) ⟨⟨_, _, _, _, [.i _, .i _, .b _, .b _], rfl, rfl, ag26, lb, ⟨rfl, rfl, rfl, rfl, trivial⟩, rfl⟩, rfl, trivial⟩ ?_ rfl)
  rfl

theorem command_ok (v : Valve) (b : Bool) : FnC Try.prog 13 [v.sv, .b b] (.tup [(commandV v b).1.sv, .i (commandV v b).2]) := by
  refine FnC.intro 13 Try.func13 rfl nm13 rfl lb (fun w F => ?_)
  refine W.seq ?_
  refine W.region ?_
  refine G.step (rd_boxS (b := 2) (cs := [.i _, .i _, .b _, .b _]) (by decide)) ⟨rfl, rfl, rfl⟩ ?_
  refine G.step (rd_alloc (b := 4) (cs := [.val (.int .i64 0), .val (.int .i64 0), .val (.bool false), .val (.bool false)]) (by decide) ze26 (⟨.inl ⟨rfl, rfl⟩, ⟨.inl ⟨rfl, rfl⟩, ⟨.inl ⟨rfl, rfl⟩, ⟨.inl ⟨rfl, rfl⟩, trivial⟩⟩⟩⟩)) rfl ?_
  refine G.step (rd_assign (s := .i _) (by decide)) rfl ?_
  refine G.done ?_
  refine W.seq ?_
  refine W.seq ?_
  refine W.region ?_
  refine G.step (rd_loadVS (cs := [.i _, .i _, .b _, .b _]) (by decide) ag26) ⟨rfl, rfl, ⟨lb, rfl⟩, ⟨rfl, rfl, rfl, rfl, trivial⟩⟩ ?_
  refine G.step (rd_call (xs := [.tmp 6]) (by decide) (valid_ok _)) ⟨⟨rfl, trivial⟩, rfl⟩ ?_
  refine G.step (rd_not (by decide)) rfl ?_
  refine G.done ?_
  refine W.cond (t := _) rfl (fun h0 => ?_) (fun h0 => ?_)
  · (try simp only [Bool.and_eq_true, Bool.or_eq_true, Bool.not_eq_true', Bool.not_eq_false', Bool.and_eq_false_iff, Bool.or_eq_false_iff, decide_eq_true_eq, decide_eq_false_iff_not, beq_iff_eq, bne_iff_ne, Bool.not_true, Bool.not_false, Bool.not_not, beq_eq_false_iff_ne] at h0)
    refine W.seq ?_
    refine W.region ?_
    refine G.step (rd_loadVS (cs := [.i _, .i _, .b _, .b _]) (by decide) ag26) ⟨rfl, rfl, ⟨lb, rfl⟩, ⟨rfl, rfl, rfl, rfl, trivial⟩⟩ ?_
    refine G.step (rd_storeVS (cs := [.i _, .i _, .b _, .b _]) sz26) ⟨rfl, rfl, rfl, lb, rfl, rfl⟩ ?_
    refine G.step (rd_assign (s := .i _) (by decide)) rfl ?_
    refine G.done ?_
    refine W.ret (RetQ.mk (ss := [.agg [.i _, .i _, .b _, .b _], .i _]) ⟨⟨_, _, _, _, [.i _, .i _, .b _, .b _], rfl, rfl, ag26, lb, ⟨rfl, rfl, rfl, rfl, trivial⟩, rfl⟩, rfl, trivial⟩ ?_ rfl)
    simp_all [resOf, commandV, Valve.sv]
  · (try simp only [Bool.and_eq_true, Bool.or_eq_true, Bool.not_eq_true', Bool.not_eq_false', Bool.and_eq_false_iff, Bool.or_eq_false_iff, decide_eq_true_eq, decide_eq_false_iff_not, beq_iff_eq, bne_iff_ne, Bool.not_true, Bool.not_false, Bool.not_not, beq_eq_false_iff_ne] at h0)
    refine W.skip ?_
    refine W.seq ?_
    refine W.region ?_
    refine G.step (rd_move (s := .b _) (by decide)) rfl ?_
    refine G.step (rd_fieldP (by decide) fl26_2) rfl ?_
    refine G.step (rd_storeV (s := .b _) sz4) ⟨rfl, rfl, rfl, lb, rfl⟩ ?_
    refine G.done ?_
    refine W.seq ?_
    refine W.region ?_
    refine G.step (rd_loadVS (cs := [.i _, .i _, .b _, .b _]) (by decide) ag26) ⟨rfl, rfl, ⟨lb, rfl⟩, ⟨rfl, rfl, rfl, rfl, trivial⟩⟩ ?_
    refine G.step (rd_storeVS (cs := [.i _, .i _, .b _, .b _]) sz26) ⟨rfl, rfl, rfl, lb, rfl, rfl⟩ ?_
    refine G.step (rd_assign (s := .i _) (by decide)) rfl ?_
    refine G.done ?_
    refine W.ret (RetQ.mk (ss := [.agg [.i _, .i _, .b _, .b _], .i _]) ⟨⟨_, _, _, _, [.i _, .i _, .b _, .b _], rfl, rfl, ag26, lb, ⟨rfl, rfl, rfl, rfl, trivial⟩, rfl⟩, rfl, trivial⟩ ?_ rfl)
    simp_all [resOf, commandV, Valve.sv]

theorem open_ok (v : Valve) : FnC Try.prog 10 [v.sv] (.b (openB v)) := by
  refine FnC.intro 12 Try.func10 rfl nm10 rfl lb (fun w F => ?_)
  refine W.seq ?_
  refine W.region ?_
  refine G.step (rd_boxS (b := 1) (cs := [.i _, .i _, .b _, .b _]) (by decide)) ⟨rfl, rfl, rfl⟩ ?_
  refine G.step (rd_assign (s := .b _) (by decide)) rfl ?_
  refine G.done ?_
  refine W.seq ?_
  refine W.region ?_
  refine G.step (rd_loadVS (cs := [.i _, .i _, .b _, .b _]) (by decide) ag26) ⟨rfl, rfl, ⟨lb, rfl⟩, ⟨rfl, rfl, rfl, rfl, trivial⟩⟩ ?_
  refine G.step (rd_call (xs := [.tmp 3]) (by decide) (valid_ok _)) ⟨⟨rfl, trivial⟩, rfl⟩ ?_
  refine G.step (rd_move (s := .b _) (by decide)) rfl ?_
  refine G.step (rd_guard (ts := []) (rd_fieldP (by decide) fl26_1) rfl rfl rfl (by decide) (by decide)) ⟨rfl, trivial, fun hg => rfl⟩ ?_
  refine G.step (rd_guard (ts := [6]) (rd_loadV (s := .i _) (by decide) sc3) rfl rfl rfl (by decide) (by decide)) ⟨rfl, ⟨fun h => by first | exact h | simp_all, trivial⟩, fun hg => ⟨rfl, rfl, lb, rfl⟩⟩ ?_
  refine G.step (rd_guard (ts := []) (rd_fieldP (by decide) fl26_0) rfl rfl rfl (by decide) (by decide)) ⟨rfl, trivial, fun hg => rfl⟩ ?_
  refine G.step (rd_guard (ts := [8]) (rd_loadV (s := .i _) (by decide) sc3) rfl rfl rfl (by decide) (by decide)) ⟨rfl, ⟨fun h => by first | exact h | simp_all, trivial⟩, fun hg => ⟨rfl, rfl, lb, rfl⟩⟩ ?_
  refine G.step (rd_guard (ts := [7, 9]) (rd_eql (k := .i64) (by decide)) rfl rfl rfl (by decide) (by decide)) ⟨rfl, ⟨fun h => by first | exact h | simp_all, fun h => by first | exact h | simp_all, trivial⟩, fun hg => ⟨rfl, rfl⟩⟩ ?_
  refine G.step (rd_pickAnd (by decide)) ⟨rfl, rfl, fun hp => by first | (rw [hp]; rfl) | simp_all⟩ ?_
  refine G.step (rd_assign (s := .b _) (by decide)) rfl ?_
  refine G.done ?_
  refine W.ret (RetQ.mk (ss := [.b _]) ⟨rfl, trivial⟩ ?_ rfl)
  simp_all [resOf, openB]

theorem closed_ok (v : Valve) : FnC Try.prog 11 [v.sv] (.b (closedB v)) := by
  refine FnC.intro 10 Try.func11 rfl nm11 rfl lb (fun w F => ?_)
  refine W.seq ?_
  refine W.region ?_
  refine G.step (rd_boxS (b := 1) (cs := [.i _, .i _, .b _, .b _]) (by decide)) ⟨rfl, rfl, rfl⟩ ?_
  refine G.step (rd_assign (s := .b _) (by decide)) rfl ?_
  refine G.done ?_
  refine W.seq ?_
  refine W.region ?_
  refine G.step (rd_loadVS (cs := [.i _, .i _, .b _, .b _]) (by decide) ag26) ⟨rfl, rfl, ⟨lb, rfl⟩, ⟨rfl, rfl, rfl, rfl, trivial⟩⟩ ?_
  refine G.step (rd_call (xs := [.tmp 3]) (by decide) (valid_ok _)) ⟨⟨rfl, trivial⟩, rfl⟩ ?_
  refine G.step (rd_move (s := .b _) (by decide)) rfl ?_
  refine G.step (rd_guard (ts := []) (rd_fieldP (by decide) fl26_1) rfl rfl rfl (by decide) (by decide)) ⟨rfl, trivial, fun hg => rfl⟩ ?_
  refine G.step (rd_guard (ts := [6]) (rd_loadV (s := .i _) (by decide) sc3) rfl rfl rfl (by decide) (by decide)) ⟨rfl, ⟨fun h => by first | exact h | simp_all, trivial⟩, fun hg => ⟨rfl, rfl, lb, rfl⟩⟩ ?_
  refine G.step (rd_guard (ts := [7]) (rd_eql (k := .i64) (by decide)) rfl rfl rfl (by decide) (by decide)) ⟨rfl, ⟨fun h => by first | exact h | simp_all, trivial⟩, fun hg => ⟨rfl, rfl⟩⟩ ?_
  refine G.step (rd_pickAnd (by decide)) ⟨rfl, rfl, fun hp => by first | (rw [hp]; rfl) | simp_all⟩ ?_
  refine G.step (rd_assign (s := .b _) (by decide)) rfl ?_
  refine G.done ?_
  refine W.ret (RetQ.mk (ss := [.b _]) ⟨rfl, trivial⟩ ?_ rfl)
  simp_all [resOf, closedB]

theorem left_ok (v : Valve) : FnC Try.prog 8 [v.sv] (.i (leftI v)) := by
  refine FnC.intro 25 Try.func8 rfl nm8 rfl lb (fun w F => ?_)
  refine W.seq ?_
  refine W.region ?_
  refine G.step (rd_boxS (b := 1) (cs := [.i _, .i _, .b _, .b _]) (by decide)) ⟨rfl, rfl, rfl⟩ ?_
  refine G.step (rd_assign (s := .i _) (by decide)) rfl ?_
  refine G.done ?_
  refine W.seq ?_
  refine W.seq ?_
  refine W.region ?_
  refine G.step (rd_loadVS (cs := [.i _, .i _, .b _, .b _]) (by decide) ag26) ⟨rfl, rfl, ⟨lb, rfl⟩, ⟨rfl, rfl, rfl, rfl, trivial⟩⟩ ?_
  refine G.step (rd_call (xs := [.tmp 4]) (by decide) (valid_ok _)) ⟨⟨rfl, trivial⟩, rfl⟩ ?_
  refine G.step (rd_not (by decide)) rfl ?_
  refine G.done ?_
  refine W.cond (t := _) rfl (fun h0 => ?_) (fun h0 => ?_)
  · (try simp only [Bool.and_eq_true, Bool.or_eq_true, Bool.not_eq_true', Bool.not_eq_false', Bool.and_eq_false_iff, Bool.or_eq_false_iff, decide_eq_true_eq, decide_eq_false_iff_not, beq_iff_eq, bne_iff_ne, Bool.not_true, Bool.not_false, Bool.not_not, beq_eq_false_iff_ne] at h0)
    refine W.seq ?_
    refine W.region ?_
    refine G.step (rd_assign (s := .i _) (by decide)) rfl ?_
    refine G.done ?_
    refine W.ret (RetQ.mk (ss := [.i _]) ⟨rfl, trivial⟩ ?_ rfl)
    simp_all [resOf, leftI]; try (intro a b; rcases h1 with h1 | h1 <;> first | (exfalso; omega) | (rw [a] at h1; cases h1))
  · (try simp only [Bool.and_eq_true, Bool.or_eq_true, Bool.not_eq_true', Bool.not_eq_false', Bool.and_eq_false_iff, Bool.or_eq_false_iff, decide_eq_true_eq, decide_eq_false_iff_not, beq_iff_eq, bne_iff_ne, Bool.not_true, Bool.not_false, Bool.not_not, beq_eq_false_iff_ne] at h0)
    obtain ⟨hb1, hb2, hb3, hb4⟩ := valid_bd h0
    obtain ⟨hg1, hg2⟩ := goal_bd h0
    refine W.skip ?_
    refine W.seq ?_
    refine W.drawn mx ?_
    refine G.step (rd_loadVS (cs := [.i _, .i _, .b _, .b _]) (by decide) ag26) ⟨rfl, rfl, ⟨lb, rfl⟩, ⟨rfl, rfl, rfl, rfl, trivial⟩⟩ ?_
    refine G.step (rd_call (xs := [.tmp 7]) (by decide) (goal_ok _)) ⟨⟨rfl, trivial⟩, rfl⟩ ?_
    refine G.step (rd_fieldP (by decide) fl26_1) rfl ?_
    refine G.step (rd_loadV (s := .i _) (by decide) sc3) ⟨rfl, rfl, lb, rfl⟩ ?_
    refine G.step (rd_sub (by decide)) ⟨rfl, rfl, (by first | omega | (simp_all; done) | (simp_all; omega))⟩ ?_
    refine G.step (rd_fieldP (by decide) fl26_1) rfl ?_
    refine G.step (rd_loadV (s := .i _) (by decide) sc3) ⟨rfl, rfl, lb, rfl⟩ ?_
    refine G.step (rd_loadVS (cs := [.i _, .i _, .b _, .b _]) (by decide) ag26) ⟨rfl, rfl, ⟨lb, rfl⟩, ⟨rfl, rfl, rfl, rfl, trivial⟩⟩ ?_
    refine G.step (rd_call (xs := [.tmp 14]) (by decide) (goal_ok _)) ⟨⟨rfl, trivial⟩, rfl⟩ ?_
    refine G.step (rd_sub (by decide)) ⟨rfl, rfl, (by first | omega | (simp_all; done) | (simp_all; omega))⟩ ?_
    refine G.step (rd_max (by decide)) ⟨rfl, rfl⟩ ?_
    refine G.step (rd_assign (s := .i _) (by decide)) rfl ?_
    refine G.drawn (by kernel_rfl) ?_
    refine W.seq ?_
    refine W.seq ?_
    refine W.region ?_
    refine G.step (rd_fieldP (by decide) fl26_3) rfl ?_
    refine G.step (rd_loadV (s := .b _) (by decide) sc4) ⟨rfl, rfl, lb, rfl⟩ ?_
    refine G.step (rd_move (s := .b _) (by decide)) rfl ?_
    refine G.step (rd_guard (ts := []) (rd_move (s := .i _) (by decide)) rfl rfl rfl (by decide) (by decide)) ⟨rfl, trivial, fun hg => rfl⟩ ?_
    refine G.step (rd_guard (ts := [21]) (rd_gtr (k := .i64) (by decide)) rfl rfl rfl (by decide) (by decide)) ⟨rfl, ⟨fun h => by first | exact h | simp_all, trivial⟩, fun hg => ⟨rfl, rfl⟩⟩ ?_
    refine G.step (rd_pickAnd (by decide)) ⟨rfl, rfl, fun hp => by first | (rw [hp]; rfl) | simp_all⟩ ?_
    refine G.done ?_
    refine W.cond (t := _) rfl (fun h1 => ?_) (fun h1 => ?_)
    · (try simp only [Bool.and_eq_true, Bool.or_eq_true, Bool.not_eq_true', Bool.not_eq_false', Bool.and_eq_false_iff, Bool.or_eq_false_iff, decide_eq_true_eq, decide_eq_false_iff_not, beq_iff_eq, bne_iff_ne, Bool.not_true, Bool.not_false, Bool.not_not, beq_eq_false_iff_ne] at h1)
      refine W.seq ?_
      refine W.region ?_
      refine G.step (rd_assign (s := .i _) (by decide)) rfl ?_
      refine G.done ?_
      refine W.ret (RetQ.mk (ss := [.i _]) ⟨rfl, trivial⟩ ?_ rfl)
      simp_all [resOf, leftI]; try (intro a b; rcases h1 with h1 | h1 <;> first | (exfalso; omega) | (rw [a] at h1; cases h1))
    · (try simp only [Bool.and_eq_true, Bool.or_eq_true, Bool.not_eq_true', Bool.not_eq_false', Bool.and_eq_false_iff, Bool.or_eq_false_iff, decide_eq_true_eq, decide_eq_false_iff_not, beq_iff_eq, bne_iff_ne, Bool.not_true, Bool.not_false, Bool.not_not, beq_eq_false_iff_ne] at h1)
      refine W.skip ?_
      refine W.seq ?_
      refine W.region ?_
      refine G.step (rd_move (s := .i _) (by decide)) rfl ?_
      refine G.step (rd_assign (s := .i _) (by decide)) rfl ?_
      refine G.done ?_
      refine W.ret (RetQ.mk (ss := [.i _]) ⟨rfl, trivial⟩ ?_ rfl)
      simp_all [resOf, leftI]; try (intro a b; rcases h1 with h1 | h1 <;> first | (exfalso; omega) | (rw [a] at h1; cases h1))

theorem rvalid_ok (v : Valve) : FnC Try.prog 20 [v.sv] (.b (validB v)) := by
  refine FnC.intro 23 Try.func20 rfl nm20 rfl lb (fun w F => ?_)
  refine W.seq ?_
  refine W.region ?_
  refine G.step (rd_boxS (b := 1) (cs := [.i _, .i _, .b _, .b _]) (by decide)) ⟨rfl, rfl, rfl⟩ ?_
  refine G.step (rd_assign (s := .b _) (by decide)) rfl ?_
  refine G.done ?_
  refine W.seq ?_
  refine W.region ?_
  refine G.step (rd_fieldP (by decide) fl26_0) rfl ?_
  refine G.step (rd_loadV (s := .i _) (by decide) sc3) ⟨rfl, rfl, lb, rfl⟩ ?_
  refine G.step (rd_geq (k := .i64) (by decide)) ⟨rfl, rfl⟩ ?_
  refine G.step (rd_move (s := .b _) (by decide)) rfl ?_
  refine G.step (rd_guard (ts := []) (rd_fieldP (by decide) fl26_0) rfl rfl rfl (by decide) (by decide)) ⟨rfl, trivial, fun hg => rfl⟩ ?_
  refine G.step (rd_guard (ts := [7]) (rd_loadV (s := .i _) (by decide) sc3) rfl rfl rfl (by decide) (by decide)) ⟨rfl, ⟨fun h => by first | exact h | simp_all, trivial⟩, fun hg => ⟨rfl, rfl, lb, rfl⟩⟩ ?_
  refine G.step (rd_guard (ts := [8]) (rd_leq (k := .i64) (by decide)) rfl rfl rfl (by decide) (by decide)) ⟨rfl, ⟨fun h => by first | exact h | simp_all, trivial⟩, fun hg => ⟨rfl, rfl⟩⟩ ?_
  refine G.step (rd_pickAnd (by decide)) ⟨rfl, rfl, fun hp => by first | (rw [hp]; rfl) | simp_all⟩ ?_
  refine G.step (rd_move (s := .b _) (by decide)) rfl ?_
  refine G.step (rd_guard (ts := []) (rd_fieldP (by decide) fl26_1) rfl rfl rfl (by decide) (by decide)) ⟨rfl, trivial, fun hg => rfl⟩ ?_
  refine G.step (rd_guard (ts := [12]) (rd_loadV (s := .i _) (by decide) sc3) rfl rfl rfl (by decide) (by decide)) ⟨rfl, ⟨fun h => by first | exact h | simp_all, trivial⟩, fun hg => ⟨rfl, rfl, lb, rfl⟩⟩ ?_
  refine G.step (rd_guard (ts := [13]) (rd_geq (k := .i64) (by decide)) rfl rfl rfl (by decide) (by decide)) ⟨rfl, ⟨fun h => by first | exact h | simp_all, trivial⟩, fun hg => ⟨rfl, rfl⟩⟩ ?_
  refine G.step (rd_pickAnd (by decide)) ⟨rfl, rfl, fun hp => by first | (rw [hp]; rfl) | simp_all⟩ ?_
  refine G.step (rd_move (s := .b _) (by decide)) rfl ?_
  refine G.step (rd_guard (ts := []) (rd_fieldP (by decide) fl26_1) rfl rfl rfl (by decide) (by decide)) ⟨rfl, trivial, fun hg => rfl⟩ ?_
  refine G.step (rd_guard (ts := [17]) (rd_loadV (s := .i _) (by decide) sc3) rfl rfl rfl (by decide) (by decide)) ⟨rfl, ⟨fun h => by first | exact h | simp_all, trivial⟩, fun hg => ⟨rfl, rfl, lb, rfl⟩⟩ ?_
  refine G.step (rd_guard (ts := []) (rd_fieldP (by decide) fl26_0) rfl rfl rfl (by decide) (by decide)) ⟨rfl, trivial, fun hg => rfl⟩ ?_
  refine G.step (rd_guard (ts := [19]) (rd_loadV (s := .i _) (by decide) sc3) rfl rfl rfl (by decide) (by decide)) ⟨rfl, ⟨fun h => by first | exact h | simp_all, trivial⟩, fun hg => ⟨rfl, rfl, lb, rfl⟩⟩ ?_
  refine G.step (rd_guard (ts := [18, 20]) (rd_leq (k := .i64) (by decide)) rfl rfl rfl (by decide) (by decide)) ⟨rfl, ⟨fun h => by first | exact h | simp_all, fun h => by first | exact h | simp_all, trivial⟩, fun hg => ⟨rfl, rfl⟩⟩ ?_
  refine G.step (rd_pickAnd (by decide)) ⟨rfl, rfl, fun hp => by first | (rw [hp]; rfl) | simp_all⟩ ?_
  refine G.step (rd_assign (s := .b _) (by decide)) rfl ?_
  refine G.done ?_
  refine W.ret (RetQ.mk (ss := [.b _]) ⟨rfl, trivial⟩ ?_ rfl)
  simp [resOf, validB, Bool.and_assoc]

theorem ropen_ok (v : Valve) : FnC Try.prog 21 [v.sv] (.b (openB v)) := by
  refine FnC.intro 12 Try.func21 rfl nm21 rfl lb (fun w F => ?_)
  refine W.seq ?_
  refine W.region ?_
  refine G.step (rd_boxS (b := 1) (cs := [.i _, .i _, .b _, .b _]) (by decide)) ⟨rfl, rfl, rfl⟩ ?_
  refine G.step (rd_assign (s := .b _) (by decide)) rfl ?_
  refine G.done ?_
  refine W.seq ?_
  refine W.region ?_
  refine G.step (rd_loadVS (cs := [.i _, .i _, .b _, .b _]) (by decide) ag26) ⟨rfl, rfl, ⟨lb, rfl⟩, ⟨rfl, rfl, rfl, rfl, trivial⟩⟩ ?_
  refine G.step (rd_call (xs := [.tmp 3]) (by decide) (rvalid_ok _)) ⟨⟨rfl, trivial⟩, rfl⟩ ?_
  refine G.step (rd_move (s := .b _) (by decide)) rfl ?_
  refine G.step (rd_guard (ts := []) (rd_fieldP (by decide) fl26_1) rfl rfl rfl (by decide) (by decide)) ⟨rfl, trivial, fun hg => rfl⟩ ?_
  refine G.step (rd_guard (ts := [6]) (rd_loadV (s := .i _) (by decide) sc3) rfl rfl rfl (by decide) (by decide)) ⟨rfl, ⟨fun h => by first | exact h | simp_all, trivial⟩, fun hg => ⟨rfl, rfl, lb, rfl⟩⟩ ?_
  refine G.step (rd_guard (ts := []) (rd_fieldP (by decide) fl26_0) rfl rfl rfl (by decide) (by decide)) ⟨rfl, trivial, fun hg => rfl⟩ ?_
  refine G.step (rd_guard (ts := [8]) (rd_loadV (s := .i _) (by decide) sc3) rfl rfl rfl (by decide) (by decide)) ⟨rfl, ⟨fun h => by first | exact h | simp_all, trivial⟩, fun hg => ⟨rfl, rfl, lb, rfl⟩⟩ ?_
  refine G.step (rd_guard (ts := [7, 9]) (rd_eql (k := .i64) (by decide)) rfl rfl rfl (by decide) (by decide)) ⟨rfl, ⟨fun h => by first | exact h | simp_all, fun h => by first | exact h | simp_all, trivial⟩, fun hg => ⟨rfl, rfl⟩⟩ ?_
  refine G.step (rd_pickAnd (by decide)) ⟨rfl, rfl, fun hp => by first | (rw [hp]; rfl) | simp_all⟩ ?_
  refine G.step (rd_assign (s := .b _) (by decide)) rfl ?_
  refine G.done ?_
  refine W.ret (RetQ.mk (ss := [.b _]) ⟨rfl, trivial⟩ ?_ rfl)
  simp_all [resOf, openB]

theorem rclosed_ok (v : Valve) : FnC Try.prog 22 [v.sv] (.b (closedB v)) := by
  refine FnC.intro 10 Try.func22 rfl nm22 rfl lb (fun w F => ?_)
  refine W.seq ?_
  refine W.region ?_
  refine G.step (rd_boxS (b := 1) (cs := [.i _, .i _, .b _, .b _]) (by decide)) ⟨rfl, rfl, rfl⟩ ?_
  refine G.step (rd_assign (s := .b _) (by decide)) rfl ?_
  refine G.done ?_
  refine W.seq ?_
  refine W.region ?_
  refine G.step (rd_loadVS (cs := [.i _, .i _, .b _, .b _]) (by decide) ag26) ⟨rfl, rfl, ⟨lb, rfl⟩, ⟨rfl, rfl, rfl, rfl, trivial⟩⟩ ?_
  refine G.step (rd_call (xs := [.tmp 3]) (by decide) (rvalid_ok _)) ⟨⟨rfl, trivial⟩, rfl⟩ ?_
  refine G.step (rd_move (s := .b _) (by decide)) rfl ?_
  refine G.step (rd_guard (ts := []) (rd_fieldP (by decide) fl26_1) rfl rfl rfl (by decide) (by decide)) ⟨rfl, trivial, fun hg => rfl⟩ ?_
  refine G.step (rd_guard (ts := [6]) (rd_loadV (s := .i _) (by decide) sc3) rfl rfl rfl (by decide) (by decide)) ⟨rfl, ⟨fun h => by first | exact h | simp_all, trivial⟩, fun hg => ⟨rfl, rfl, lb, rfl⟩⟩ ?_
  refine G.step (rd_guard (ts := [7]) (rd_eql (k := .i64) (by decide)) rfl rfl rfl (by decide) (by decide)) ⟨rfl, ⟨fun h => by first | exact h | simp_all, trivial⟩, fun hg => ⟨rfl, rfl⟩⟩ ?_
  refine G.step (rd_pickAnd (by decide)) ⟨rfl, rfl, fun hp => by first | (rw [hp]; rfl) | simp_all⟩ ?_
  refine G.step (rd_assign (s := .b _) (by decide)) rfl ?_
  refine G.done ?_
  refine W.ret (RetQ.mk (ss := [.b _]) ⟨rfl, trivial⟩ ?_ rfl)
  simp_all [resOf, closedB]

theorem rcommand_ok (v : Valve) (b : Bool) : FnC Try.prog 15 [v.sv, .b b] (.tup [(commandV v b).1.sv, .i (commandV v b).2]) := by
  refine FnC.intro 13 Try.func15 rfl nm15 rfl lb (fun w F => ?_)
  refine W.seq ?_
  refine W.region ?_
  refine G.step (rd_boxS (b := 2) (cs := [.i _, .i _, .b _, .b _]) (by decide)) ⟨rfl, rfl, rfl⟩ ?_
  refine G.step (rd_alloc (b := 4) (cs := [.val (.int .i64 0), .val (.int .i64 0), .val (.bool false), .val (.bool false)]) (by decide) ze26 (⟨.inl ⟨rfl, rfl⟩, ⟨.inl ⟨rfl, rfl⟩, ⟨.inl ⟨rfl, rfl⟩, ⟨.inl ⟨rfl, rfl⟩, trivial⟩⟩⟩⟩)) rfl ?_
  refine G.step (rd_assign (s := .i _) (by decide)) rfl ?_
  refine G.done ?_
  refine W.seq ?_
  refine W.seq ?_
  refine W.region ?_
  refine G.step (rd_loadVS (cs := [.i _, .i _, .b _, .b _]) (by decide) ag26) ⟨rfl, rfl, ⟨lb, rfl⟩, ⟨rfl, rfl, rfl, rfl, trivial⟩⟩ ?_
  refine G.step (rd_call (xs := [.tmp 6]) (by decide) (rvalid_ok _)) ⟨⟨rfl, trivial⟩, rfl⟩ ?_
  refine G.step (rd_not (by decide)) rfl ?_
  refine G.done ?_
  refine W.cond (t := _) rfl (fun h0 => ?_) (fun h0 => ?_)
  · (try simp only [Bool.and_eq_true, Bool.or_eq_true, Bool.not_eq_true', Bool.not_eq_false', Bool.and_eq_false_iff, Bool.or_eq_false_iff, decide_eq_true_eq, decide_eq_false_iff_not, beq_iff_eq, bne_iff_ne, Bool.not_true, Bool.not_false, Bool.not_not, beq_eq_false_iff_ne] at h0)
    refine W.seq ?_
    refine W.region ?_
    refine G.step (rd_loadVS (cs := [.i _, .i _, .b _, .b _]) (by decide) ag26) ⟨rfl, rfl, ⟨lb, rfl⟩, ⟨rfl, rfl, rfl, rfl, trivial⟩⟩ ?_
    refine G.step (rd_storeVS (cs := [.i _, .i _, .b _, .b _]) sz26) ⟨rfl, rfl, rfl, lb, rfl, rfl⟩ ?_
    refine G.step (rd_assign (s := .i _) (by decide)) rfl ?_
    refine G.done ?_
    refine W.ret (RetQ.mk (ss := [.agg [.i _, .i _, .b _, .b _], .i _]) ⟨⟨_, _, _, _, [.i _, .i _, .b _, .b _], rfl, rfl, ag26, lb, ⟨rfl, rfl, rfl, rfl, trivial⟩, rfl⟩, rfl, trivial⟩ ?_ rfl)
    simp_all [resOf, commandV, Valve.sv]
  · (try simp only [Bool.and_eq_true, Bool.or_eq_true, Bool.not_eq_true', Bool.not_eq_false', Bool.and_eq_false_iff, Bool.or_eq_false_iff, decide_eq_true_eq, decide_eq_false_iff_not, beq_iff_eq, bne_iff_ne, Bool.not_true, Bool.not_false, Bool.not_not, beq_eq_false_iff_ne] at h0)
    refine W.skip ?_
    refine W.seq ?_
    refine W.region ?_
    refine G.step (rd_move (s := .b _) (by decide)) rfl ?_
    refine G.step (rd_fieldP (by decide) fl26_2) rfl ?_
    refine G.step (rd_storeV (s := .b _) sz4) ⟨rfl, rfl, rfl, lb, rfl⟩ ?_
    refine G.done ?_
    refine W.seq ?_
    refine W.region ?_
    refine G.step (rd_loadVS (cs := [.i _, .i _, .b _, .b _]) (by decide) ag26) ⟨rfl, rfl, ⟨lb, rfl⟩, ⟨rfl, rfl, rfl, rfl, trivial⟩⟩ ?_
    refine G.step (rd_storeVS (cs := [.i _, .i _, .b _, .b _]) sz26) ⟨rfl, rfl, rfl, lb, rfl, rfl⟩ ?_
    refine G.step (rd_assign (s := .i _) (by decide)) rfl ?_
    refine G.done ?_
    refine W.ret (RetQ.mk (ss := [.agg [.i _, .i _, .b _, .b _], .i _]) ⟨⟨_, _, _, _, [.i _, .i _, .b _, .b _], rfl, rfl, ag26, lb, ⟨rfl, rfl, rfl, rfl, trivial⟩, rfl⟩, rfl, trivial⟩ ?_ rfl)
    simp_all [resOf, commandV, Valve.sv]

theorem rstep_ok (v : Valve) : FnC Try.prog 17 [v.sv] (.tup [(passV v 1).1.sv, .i (passV v 1).2]) := by
  refine FnC.intro 37 Try.func17 rfl nm17 rfl lb (fun w F => ?_)
  refine W.seq ?_
  refine W.region ?_
  refine G.step (rd_boxS (b := 1) (cs := [.i _, .i _, .b _, .b _]) (by decide)) ⟨rfl, rfl, rfl⟩ ?_
  refine G.step (rd_alloc (b := 2) (cs := [.val (.int .i64 0), .val (.int .i64 0), .val (.bool false), .val (.bool false)]) (by decide) ze26 (⟨.inl ⟨rfl, rfl⟩, ⟨.inl ⟨rfl, rfl⟩, ⟨.inl ⟨rfl, rfl⟩, ⟨.inl ⟨rfl, rfl⟩, trivial⟩⟩⟩⟩)) rfl ?_
  refine G.step (rd_assign (s := .i _) (by decide)) rfl ?_
  refine G.done ?_
  refine W.seq ?_
  refine W.seq ?_
  refine W.region ?_
  refine G.step (rd_loadVS (cs := [.i _, .i _, .b _, .b _]) (by decide) ag26) ⟨rfl, rfl, ⟨lb, rfl⟩, ⟨rfl, rfl, rfl, rfl, trivial⟩⟩ ?_
  refine G.step (rd_call (xs := [.tmp 4]) (by decide) (rvalid_ok _)) ⟨⟨rfl, trivial⟩, rfl⟩ ?_
  refine G.step (rd_not (by decide)) rfl ?_
  refine G.done ?_
  refine W.cond (t := _) rfl (fun h0 => ?_) (fun h0 => ?_)
  · (try simp only [Bool.and_eq_true, Bool.or_eq_true, Bool.not_eq_true', Bool.not_eq_false', Bool.and_eq_false_iff, Bool.or_eq_false_iff, decide_eq_true_eq, decide_eq_false_iff_not, beq_iff_eq, bne_iff_ne, Bool.not_true, Bool.not_false, Bool.not_not, beq_eq_false_iff_ne] at h0)
    refine W.seq ?_
    refine W.region ?_
    refine G.step (rd_loadVS (cs := [.i _, .i _, .b _, .b _]) (by decide) ag26) ⟨rfl, rfl, ⟨lb, rfl⟩, ⟨rfl, rfl, rfl, rfl, trivial⟩⟩ ?_
    refine G.step (rd_storeVS (cs := [.i _, .i _, .b _, .b _]) sz26) ⟨rfl, rfl, rfl, lb, rfl, rfl⟩ ?_
    refine G.step (rd_assign (s := .i _) (by decide)) rfl ?_
    refine G.done ?_
    refine W.ret (RetQ.mk (ss := [.agg [.i _, .i _, .b _, .b _], .i _]) ⟨⟨_, _, _, _, [.i _, .i _, .b _, .b _], rfl, rfl, ag26, lb, ⟨rfl, rfl, rfl, rfl, trivial⟩, rfl⟩, rfl, trivial⟩ ?_ rfl)
    simp_all [resOf, passV, Valve.sv, movedV, goalI]; try grind
  · (try simp only [Bool.and_eq_true, Bool.or_eq_true, Bool.not_eq_true', Bool.not_eq_false', Bool.and_eq_false_iff, Bool.or_eq_false_iff, decide_eq_true_eq, decide_eq_false_iff_not, beq_iff_eq, bne_iff_ne, Bool.not_true, Bool.not_false, Bool.not_not, beq_eq_false_iff_ne] at h0)
    obtain ⟨hb1, hb2, hb3, hb4⟩ := valid_bd h0
    refine W.skip ?_
    refine W.seq ?_
    refine W.seq ?_
    refine W.region ?_
    refine G.step (rd_fieldP (by decide) fl26_3) rfl ?_
    refine G.step (rd_loadV (s := .b _) (by decide) sc4) ⟨rfl, rfl, lb, rfl⟩ ?_
    refine G.done ?_
    refine W.cond (t := _) rfl (fun h1 => ?_) (fun h1 => ?_)
    · (try simp only [Bool.and_eq_true, Bool.or_eq_true, Bool.not_eq_true', Bool.not_eq_false', Bool.and_eq_false_iff, Bool.or_eq_false_iff, decide_eq_true_eq, decide_eq_false_iff_not, beq_iff_eq, bne_iff_ne, Bool.not_true, Bool.not_false, Bool.not_not, beq_eq_false_iff_ne] at h1)
      refine W.seq ?_
      refine W.region ?_
      refine G.step (rd_loadVS (cs := [.i _, .i _, .b _, .b _]) (by decide) ag26) ⟨rfl, rfl, ⟨lb, rfl⟩, ⟨rfl, rfl, rfl, rfl, trivial⟩⟩ ?_
      refine G.step (rd_storeVS (cs := [.i _, .i _, .b _, .b _]) sz26) ⟨rfl, rfl, rfl, lb, rfl, rfl⟩ ?_
      refine G.step (rd_assign (s := .i _) (by decide)) rfl ?_
      refine G.done ?_
      refine W.ret (RetQ.mk (ss := [.agg [.i _, .i _, .b _, .b _], .i _]) ⟨⟨_, _, _, _, [.i _, .i _, .b _, .b _], rfl, rfl, ag26, lb, ⟨rfl, rfl, rfl, rfl, trivial⟩, rfl⟩, rfl, trivial⟩ ?_ rfl)
      simp_all [resOf, passV, Valve.sv, movedV, goalI]; try grind
    · (try simp only [Bool.and_eq_true, Bool.or_eq_true, Bool.not_eq_true', Bool.not_eq_false', Bool.and_eq_false_iff, Bool.or_eq_false_iff, decide_eq_true_eq, decide_eq_false_iff_not, beq_iff_eq, bne_iff_ne, Bool.not_true, Bool.not_false, Bool.not_not, beq_eq_false_iff_ne] at h1)
      refine W.skip ?_
      refine W.seq ?_
      refine W.seq ?_
      refine W.region ?_
      refine G.step (rd_fieldP (by decide) fl26_2) rfl ?_
      refine G.step (rd_loadV (s := .b _) (by decide) sc4) ⟨rfl, rfl, lb, rfl⟩ ?_
      refine G.step (rd_move (s := .b _) (by decide)) rfl ?_
      refine G.step (rd_guard (ts := []) (rd_fieldP (by decide) fl26_1) rfl rfl rfl (by decide) (by decide)) ⟨rfl, trivial, fun hg => rfl⟩ ?_
      refine G.step (rd_guard (ts := [14]) (rd_loadV (s := .i _) (by decide) sc3) rfl rfl rfl (by decide) (by decide)) ⟨rfl, ⟨fun h => by first | exact h | simp_all, trivial⟩, fun hg => ⟨rfl, rfl, lb, rfl⟩⟩ ?_
      refine G.step (rd_guard (ts := []) (rd_fieldP (by decide) fl26_0) rfl rfl rfl (by decide) (by decide)) ⟨rfl, trivial, fun hg => rfl⟩ ?_
      refine G.step (rd_guard (ts := [16]) (rd_loadV (s := .i _) (by decide) sc3) rfl rfl rfl (by decide) (by decide)) ⟨rfl, ⟨fun h => by first | exact h | simp_all, trivial⟩, fun hg => ⟨rfl, rfl, lb, rfl⟩⟩ ?_
      refine G.step (rd_guard (ts := [15, 17]) (rd_lss (k := .i64) (by decide)) rfl rfl rfl (by decide) (by decide)) ⟨rfl, ⟨fun h => by first | exact h | simp_all, fun h => by first | exact h | simp_all, trivial⟩, fun hg => ⟨rfl, rfl⟩⟩ ?_
      refine G.step (rd_pickAnd (by decide)) ⟨rfl, rfl, fun hp => by first | (rw [hp]; rfl) | simp_all⟩ ?_
      refine G.done ?_
      refine W.cond (t := _) rfl (fun h2 => ?_) (fun h2 => ?_)
      · (try simp only [Bool.and_eq_true, Bool.or_eq_true, Bool.not_eq_true', Bool.not_eq_false', Bool.and_eq_false_iff, Bool.or_eq_false_iff, decide_eq_true_eq, decide_eq_false_iff_not, beq_iff_eq, bne_iff_ne, Bool.not_true, Bool.not_false, Bool.not_not, beq_eq_false_iff_ne] at h2)
        refine W.region ?_
        refine G.step (rd_fieldP (by decide) fl26_1) rfl ?_
        refine G.step (rd_loadV (s := .i _) (by decide) sc3) ⟨rfl, rfl, lb, rfl⟩ ?_
        refine G.step (rd_add (by decide)) ⟨rfl, rfl, (by first | omega | (simp_all; done) | (simp_all; omega))⟩ ?_
        refine G.step (rd_fieldP (by decide) fl26_1) rfl ?_
        refine G.step (rd_storeV (s := .i _) sz3) ⟨rfl, rfl, rfl, lb, rfl⟩ ?_
        refine G.done ?_
        refine W.seq ?_
        refine W.region ?_
        refine G.step (rd_loadVS (cs := [.i _, .i _, .b _, .b _]) (by decide) ag26) ⟨rfl, rfl, ⟨lb, rfl⟩, ⟨rfl, rfl, rfl, rfl, trivial⟩⟩ ?_
        refine G.step (rd_storeVS (cs := [.i _, .i _, .b _, .b _]) sz26) ⟨rfl, rfl, rfl, lb, rfl, rfl⟩ ?_
        refine G.step (rd_assign (s := .i _) (by decide)) rfl ?_
        refine G.done ?_
        refine W.ret (RetQ.mk (ss := [.agg [.i _, .i _, .b _, .b _], .i _]) ⟨⟨_, _, _, _, [.i _, .i _, .b _, .b _], rfl, rfl, ag26, lb, ⟨rfl, rfl, rfl, rfl, trivial⟩, rfl⟩, rfl, trivial⟩ ?_ rfl)
        simp_all [resOf, passV, Valve.sv, movedV, goalI]; try grind
      · (try simp only [Bool.and_eq_true, Bool.or_eq_true, Bool.not_eq_true', Bool.not_eq_false', Bool.and_eq_false_iff, Bool.or_eq_false_iff, decide_eq_true_eq, decide_eq_false_iff_not, beq_iff_eq, bne_iff_ne, Bool.not_true, Bool.not_false, Bool.not_not, beq_eq_false_iff_ne] at h2)
        refine W.seq ?_
        refine W.region ?_
        refine G.step (rd_fieldP (by decide) fl26_2) rfl ?_
        refine G.step (rd_loadV (s := .b _) (by decide) sc4) ⟨rfl, rfl, lb, rfl⟩ ?_
        refine G.step (rd_not (by decide)) rfl ?_
        refine G.step (rd_move (s := .b _) (by decide)) rfl ?_
        refine G.step (rd_guard (ts := []) (rd_fieldP (by decide) fl26_1) rfl rfl rfl (by decide) (by decide)) ⟨rfl, trivial, fun hg => rfl⟩ ?_
        refine G.step (rd_guard (ts := [28]) (rd_loadV (s := .i _) (by decide) sc3) rfl rfl rfl (by decide) (by decide)) ⟨rfl, ⟨fun h => by first | exact h | simp_all, trivial⟩, fun hg => ⟨rfl, rfl, lb, rfl⟩⟩ ?_
        refine G.step (rd_guard (ts := [29]) (rd_gtr (k := .i64) (by decide)) rfl rfl rfl (by decide) (by decide)) ⟨rfl, ⟨fun h => by first | exact h | simp_all, trivial⟩, fun hg => ⟨rfl, rfl⟩⟩ ?_
        refine G.step (rd_pickAnd (by decide)) ⟨rfl, rfl, fun hp => by first | (rw [hp]; rfl) | simp_all⟩ ?_
        refine G.done ?_
        refine W.cond (t := _) rfl (fun h3 => ?_) (fun h3 => ?_)
        · (try simp only [Bool.and_eq_true, Bool.or_eq_true, Bool.not_eq_true', Bool.not_eq_false', Bool.and_eq_false_iff, Bool.or_eq_false_iff, decide_eq_true_eq, decide_eq_false_iff_not, beq_iff_eq, bne_iff_ne, Bool.not_true, Bool.not_false, Bool.not_not, beq_eq_false_iff_ne] at h3)
          refine W.region ?_
          refine G.step (rd_fieldP (by decide) fl26_1) rfl ?_
          refine G.step (rd_loadV (s := .i _) (by decide) sc3) ⟨rfl, rfl, lb, rfl⟩ ?_
          refine G.step (rd_sub (by decide)) ⟨rfl, rfl, (by first | omega | (simp_all; done) | (simp_all; omega))⟩ ?_
          refine G.step (rd_fieldP (by decide) fl26_1) rfl ?_
          refine G.step (rd_storeV (s := .i _) sz3) ⟨rfl, rfl, rfl, lb, rfl⟩ ?_
          refine G.done ?_
          refine W.prune (regs := [(1, .ptr _ _), (2, .ptr _ _), (3, .i _)]) (vars := [(1, _, [.i _, .i _, .b _, .b _]), (2, _, [.i _, .i _, .b _, .b _])]) (arrs := []) ⟨⟨rfl, rfl⟩, ⟨rfl, rfl⟩, ⟨rfl, rfl⟩, trivial⟩ ⟨⟨_, rfl, rfl, ⟨⟨rfl, rfl⟩, ⟨rfl, rfl⟩, ⟨rfl, rfl⟩, ⟨rfl, rfl⟩, trivial⟩⟩, ⟨_, rfl, rfl, ⟨⟨rfl, rfl⟩, ⟨rfl, rfl⟩, ⟨rfl, rfl⟩, ⟨rfl, rfl⟩, trivial⟩⟩, trivial⟩ trivial rfl PinOk.none ?_
          refine W.seq ?_
          refine W.region ?_
          refine G.step (rd_loadVS (cs := [.i _, .i _, .b _, .b _]) (by decide) ag26) ⟨rfl, rfl, ⟨lb, rfl⟩, ⟨rfl, rfl, rfl, rfl, trivial⟩⟩ ?_
          refine G.step (rd_storeVS (cs := [.i _, .i _, .b _, .b _]) sz26) ⟨rfl, rfl, rfl, lb, rfl, rfl⟩ ?_
          refine G.step (rd_assign (s := .i _) (by decide)) rfl ?_
          refine G.done ?_
          refine W.ret (RetQ.mk (ss := [.agg [.i _, .i _, .b _, .b _], .i _]) ⟨⟨_, _, _, _, [.i _, .i _, .b _, .b _], rfl, rfl, ag26, lb, ⟨rfl, rfl, rfl, rfl, trivial⟩, rfl⟩, rfl, trivial⟩ ?_ rfl)
          simp_all [resOf, passV, Valve.sv, movedV, goalI]; try grind
        · (try simp only [Bool.and_eq_true, Bool.or_eq_true, Bool.not_eq_true', Bool.not_eq_false', Bool.and_eq_false_iff, Bool.or_eq_false_iff, decide_eq_true_eq, decide_eq_false_iff_not, beq_iff_eq, bne_iff_ne, Bool.not_true, Bool.not_false, Bool.not_not, beq_eq_false_iff_ne] at h3)
          refine W.skip ?_
          refine W.seq ?_
          refine W.region ?_
          refine G.step (rd_loadVS (cs := [.i _, .i _, .b _, .b _]) (by decide) ag26) ⟨rfl, rfl, ⟨lb, rfl⟩, ⟨rfl, rfl, rfl, rfl, trivial⟩⟩ ?_
          refine G.step (rd_storeVS (cs := [.i _, .i _, .b _, .b _]) sz26) ⟨rfl, rfl, rfl, lb, rfl, rfl⟩ ?_
          refine G.step (rd_assign (s := .i _) (by decide)) rfl ?_
          refine G.done ?_
          refine W.ret (RetQ.mk (ss := [.agg [.i _, .i _, .b _, .b _], .i _]) ⟨⟨_, _, _, _, [.i _, .i _, .b _, .b _], rfl, rfl, ag26, lb, ⟨rfl, rfl, rfl, rfl, trivial⟩, rfl⟩, rfl, trivial⟩ ?_ rfl)
          simp_all [resOf, passV, Valve.sv, movedV, goalI]; try grind

theorem mod_ok (x n : Int) (hx : -9223372036854775808 ≤ x ∧ x ≤ 9223372036854775807) (hn : n ≤ 9223372036854775807) : FnC Try.prog 28 [.i x, .i n] (.i (modI x n)) := by
  have hm := Int.lt_tmod_of_pos x (b := n)
  have hm2 := Int.tmod_lt_of_pos x (b := n)
  have hf := mod_fix x n
  refine FnC.intro 16 Try.func28 rfl nm28 rfl lb (fun w F => ?_)
  refine W.seq ?_
  refine W.region ?_
  refine G.step (rd_assign (s := .i _) (by decide)) rfl ?_
  refine G.done ?_
  refine W.seq ?_
  refine W.seq ?_
  refine W.region ?_
  refine G.step (rd_move (s := .i _) (by decide)) rfl ?_
  refine G.step (rd_lss (k := .i64) (by decide)) ⟨rfl, rfl⟩ ?_
  refine G.done ?_
  refine W.cond (t := _) rfl (fun h0 => ?_) (fun h0 => ?_)
  · (try simp only [Bool.and_eq_true, Bool.or_eq_true, Bool.not_eq_true', Bool.not_eq_false', Bool.and_eq_false_iff, Bool.or_eq_false_iff, decide_eq_true_eq, decide_eq_false_iff_not, beq_iff_eq, bne_iff_ne, Bool.not_true, Bool.not_false, Bool.not_not, beq_eq_false_iff_ne] at h0)
    refine W.seq ?_
    refine W.region ?_
    refine G.step (rd_assign (s := .i _) (by decide)) rfl ?_
    refine G.done ?_
    refine W.ret (RetQ.mk (ss := [.i _]) ⟨rfl, trivial⟩ ?_ rfl)
    (unfold modI; first | (rw [if_pos (by omega)]; rfl) | (rw [if_neg (by omega), hf (by omega)]; first | (rw [if_pos (by omega)]; rfl) | (rw [if_neg (by omega)]; rfl)))
  · (try simp only [Bool.and_eq_true, Bool.or_eq_true, Bool.not_eq_true', Bool.not_eq_false', Bool.and_eq_false_iff, Bool.or_eq_false_iff, decide_eq_true_eq, decide_eq_false_iff_not, beq_iff_eq, bne_iff_ne, Bool.not_true, Bool.not_false, Bool.not_not, beq_eq_false_iff_ne] at h0)
    refine W.skip ?_
    refine W.seq ?_
    refine W.region ?_
    refine G.step (rd_move (s := .i _) (by decide)) rfl ?_
    refine G.step (rd_move (s := .i _) (by decide)) rfl ?_
    refine G.step (rd_rem (by decide)) ⟨rfl, rfl, (by first | omega | (simp_all; done) | (simp_all; omega))⟩ ?_
    refine G.step (rd_assign (s := .i _) (by decide)) rfl ?_
    refine G.done ?_
    refine W.seq ?_
    refine W.seq ?_
    refine W.region ?_
    refine G.step (rd_move (s := .i _) (by decide)) rfl ?_
    refine G.step (rd_lss (k := .i64) (by decide)) ⟨rfl, rfl⟩ ?_
    refine G.done ?_
    refine W.cond (t := _) rfl (fun h1 => ?_) (fun h1 => ?_)
    · (try simp only [Bool.and_eq_true, Bool.or_eq_true, Bool.not_eq_true', Bool.not_eq_false', Bool.and_eq_false_iff, Bool.or_eq_false_iff, decide_eq_true_eq, decide_eq_false_iff_not, beq_iff_eq, bne_iff_ne, Bool.not_true, Bool.not_false, Bool.not_not, beq_eq_false_iff_ne] at h1)
      refine W.region ?_
      refine G.step (rd_move (s := .i _) (by decide)) rfl ?_
      refine G.step (rd_move (s := .i _) (by decide)) rfl ?_
      refine G.step (rd_add (by decide)) ⟨rfl, rfl, (by first | omega | (simp_all; done) | (simp_all; omega))⟩ ?_
      refine G.step (rd_assign (s := .i _) (by decide)) rfl ?_
      refine G.done ?_
      refine W.seq ?_
      refine W.region ?_
      refine G.step (rd_move (s := .i _) (by decide)) rfl ?_
      refine G.step (rd_assign (s := .i _) (by decide)) rfl ?_
      refine G.done ?_
      refine W.ret (RetQ.mk (ss := [.i _]) ⟨rfl, trivial⟩ ?_ rfl)
      (unfold modI; first | (rw [if_pos (by omega)]; rfl) | (rw [if_neg (by omega), hf (by omega)]; first | (rw [if_pos (by omega)]; rfl) | (rw [if_neg (by omega)]; rfl)))
    · (try simp only [Bool.and_eq_true, Bool.or_eq_true, Bool.not_eq_true', Bool.not_eq_false', Bool.and_eq_false_iff, Bool.or_eq_false_iff, decide_eq_true_eq, decide_eq_false_iff_not, beq_iff_eq, bne_iff_ne, Bool.not_true, Bool.not_false, Bool.not_not, beq_eq_false_iff_ne] at h1)
      refine W.skip ?_
      refine W.seq ?_
      refine W.region ?_
      refine G.step (rd_move (s := .i _) (by decide)) rfl ?_
      refine G.step (rd_assign (s := .i _) (by decide)) rfl ?_
      refine G.done ?_
      refine W.ret (RetQ.mk (ss := [.i _]) ⟨rfl, trivial⟩ ?_ rfl)
      (unfold modI; first | (rw [if_pos (by omega)]; rfl) | (rw [if_neg (by omega), hf (by omega)]; first | (rw [if_pos (by omega)]; rfl) | (rw [if_neg (by omega)]; rfl)))

theorem raw_ok (s : Src) (hs : s.ok) : FnV Try.prog 29 [] 41 [ints s.l, .i s.p] (.i (raw s).1) [ints (raw s).2.l, .i (raw s).2.p] := by
  obtain ⟨hs1, hs2, hs3⟩ := hs
  refine FnV.intro 1000 31 Try.func29 rfl nm29 rfl lb (fun w F gb => ?_)
  refine W.seq ?_
  refine W.region ?_
  refine G.step (rd_assign (s := .i _) (by decide)) rfl ?_
  refine G.done ?_
  refine W.seq ?_
  refine W.seq ?_
  refine W.drawn mx ?_
  refine G.step (rd_move (s := .ptr _ _) (by decide)) rfl ?_
  refine G.step (rd_nilCheckP (by decide)) rfl ?_
  refine G.step (rd_fieldP (by decide) fl41_1) rfl ?_
  refine G.step (rd_loadV (s := .i _) (by decide) sc3) ⟨rfl, rfl, lb, rfl⟩ ?_
  refine G.step (rd_move (s := .ptr _ _) (by decide)) rfl ?_
  refine G.step (rd_nilCheckP (by decide)) rfl ?_
  refine G.step (rd_fieldP (by decide) fl41_0) rfl ?_
  refine G.step (rd_loadV (s := slOf _ _ _ _) (by decide) sc22) ⟨rfl, rfl, lb, rfl⟩ ?_
  refine G.step (rd_len (by decide) Try.underlying22) rfl ?_
  refine G.step (rd_geq (k := .i64) (by decide)) ⟨rfl, rfl⟩ ?_
  refine G.drawn (by kernel_rfl) ?_
  refine W.cond (t := _) rfl (fun h0 => ?_) (fun h0 => ?_)
  · (try simp only [Bool.and_eq_true, Bool.or_eq_true, Bool.not_eq_true', Bool.not_eq_false', Bool.and_eq_false_iff, Bool.or_eq_false_iff, decide_eq_true_eq, decide_eq_false_iff_not, beq_iff_eq, bne_iff_ne, Bool.not_true, Bool.not_false, Bool.not_not, beq_eq_false_iff_ne] at h0)
    refine W.seq ?_
    refine W.region ?_
    refine G.step (rd_assign (s := .i _) (by decide)) rfl ?_
    refine G.done ?_
    refine W.ret (RetQV.mk (ss := [.i _]) (cs'' := [slOf _ _ _ _, .i _]) ⟨rfl, trivial⟩ rfl rfl ⟨rfl, rfl, trivial⟩ ?_ ?_ rfl rfl)
    all_goals ((unfold raw; first | (rw [if_pos h0]; rfl) | (rw [if_neg h0]; first | rfl | (rw [Int.add_sub_cancel]; rfl))))
  · (try simp only [Bool.and_eq_true, Bool.or_eq_true, Bool.not_eq_true', Bool.not_eq_false', Bool.and_eq_false_iff, Bool.or_eq_false_iff, decide_eq_true_eq, decide_eq_false_iff_not, beq_iff_eq, bne_iff_ne, Bool.not_true, Bool.not_false, Bool.not_not, beq_eq_false_iff_ne] at h0)
    refine W.skip ?_
    refine W.seq ?_
    refine W.region ?_
    refine G.step (rd_move (s := .ptr _ _) (by decide)) rfl ?_
    refine G.step (rd_nilCheckP (by decide)) rfl ?_
    refine G.step (rd_fieldP (by decide) fl41_1) rfl ?_
    refine G.step (rd_loadV (s := .i _) (by decide) sc3) ⟨rfl, rfl, lb, rfl⟩ ?_
    refine G.step (rd_add (by decide)) ⟨rfl, rfl, (by first | omega | (simp_all; done) | (simp_all; omega))⟩ ?_
    refine G.step (rd_nilCheckP (by decide)) rfl ?_
    refine G.step (rd_fieldP (by decide) fl41_1) rfl ?_
    refine G.step (rd_storeV (s := .i _) sz3) ⟨rfl, rfl, rfl, lb, rfl⟩ ?_
    refine G.done ?_
    refine W.seq ?_
    refine W.drawn mx ?_
    refine G.step (rd_move (s := .ptr _ _) (by decide)) rfl ?_
    refine G.step (rd_nilCheckP (by decide)) rfl ?_
    refine G.step (rd_fieldP (by decide) fl41_0) rfl ?_
    refine G.step (rd_loadV (s := slOf _ _ _ _) (by decide) sc22) ⟨rfl, rfl, lb, rfl⟩ ?_
    refine G.step (rd_move (s := .ptr _ _) (by decide)) rfl ?_
    refine G.step (rd_nilCheckP (by decide)) rfl ?_
    refine G.step (rd_fieldP (by decide) fl41_1) rfl ?_
    refine G.step (rd_loadV (s := .i _) (by decide) sc3) ⟨rfl, rfl, lb, rfl⟩ ?_
    refine G.step (rd_sub (by decide)) ⟨rfl, rfl, (by first | omega | (simp_all; done) | (simp_all; omega))⟩ ?_
    refine G.step (rd_index (kd := .i64) (by decide) el22) ⟨rfl, rfl, (by first | omega | (simp_all; done) | (simp_all; omega))⟩ ?_
    refine G.step (rd_loadE (s := .i _) (by decide) sc3) ⟨rfl, lb, rfl⟩ ?_
    refine G.step (rd_assign (s := .i _) (by decide)) rfl ?_
    refine G.drawn (by kernel_rfl) ?_
    refine W.ret (RetQV.mk (ss := [.i _]) (cs'' := [slOf _ _ _ _, .i _]) ⟨rfl, trivial⟩ rfl rfl ⟨rfl, rfl, trivial⟩ ?_ ?_ rfl rfl)
    all_goals ((unfold raw; first | (rw [if_pos h0]; rfl) | (rw [if_neg h0]; first | rfl | (rw [Int.add_sub_cancel]; rfl))))

theorem n_ok (s : Src) (n : Int) (hs : s.ok) (hn : n ≤ 9223372036854775807) : FnV Try.prog 25 [.i n] 41 [ints s.l, .i s.p] (.i (nn s n).1) [ints (nn s n).2.l, .i (nn s n).2.p] := by
  refine FnV.intro 1000 9 Try.func25 rfl nm25 rfl lb (fun w F gb => ?_)
  refine W.seq ?_
  refine W.region ?_
  refine G.step (rd_assign (s := .i _) (by decide)) rfl ?_
  refine G.done ?_
  refine W.seq ?_
  refine W.region ?_
  refine G.step (rd_move (s := .ptr _ _) (by decide)) rfl ?_
  refine G.step (rd_callV (xs := []) (by decide) (raw_ok _ hs) rfl rfl) ⟨rfl, rfl, ⟨rfl, rfl, trivial⟩, trivial, rfl, rfl⟩ ?_
  refine G.step (rd_move (s := .i _) (by decide)) rfl ?_
  refine G.step (rd_call (xs := [.tmp 6, .tmp 7]) (by decide) (mod_ok _ _ (raw_bd hs) (by omega))) ⟨⟨rfl, rfl, trivial⟩, rfl⟩ ?_
  refine G.step (rd_assign (s := .i _) (by decide)) rfl ?_
  refine G.done ?_
  refine W.ret (RetQV.mk (ss := [.i _]) (cs'' := [slOf _ _ _ _, .i _]) ⟨rfl, trivial⟩ rfl rfl ⟨rfl, rfl, trivial⟩ ?_ ?_ rfl rfl)
  all_goals (first | rfl | simp_all [resOf, nn, ints])

theorem pick_ok (s : Src) (l : List Int) (hs : s.ok) (hl : 0 < l.length) (hl2 : (l.length : Int) ≤ 9223372036854775807) : FnV Try.prog 24 [ints l] 41 [ints s.l, .i s.p] (.i (pick s l).1) [ints (pick s l).2.l, .i (pick s l).2.p] := by
  have hb := nn_bd s (l.length : Int) (by omega)
  refine FnV.intro 1000 12 Try.func24 rfl nm24 rfl lb (fun w F gb => ?_)
  refine W.seq ?_
  refine W.region ?_
  refine G.step (rd_assign (s := .i _) (by decide)) rfl ?_
  refine G.done ?_
  refine W.seq ?_
  refine W.region ?_
  refine G.step (rd_move (s := slOf _ _ _ _) (by decide)) rfl ?_
  refine G.step (rd_move (s := .ptr _ _) (by decide)) rfl ?_
  refine G.step (rd_move (s := slOf _ _ _ _) (by decide)) rfl ?_
  refine G.step (rd_len (by decide) Try.underlying22) rfl ?_
  refine G.step (rd_callV (xs := [.tmp 8]) (by decide) (n_ok _ _ hs (by omega)) rfl rfl) ⟨rfl, rfl, ⟨rfl, rfl, trivial⟩, ⟨rfl, trivial⟩, rfl, rfl⟩ ?_
  refine G.step (rd_index (kd := .i64) (by decide) el22) ⟨rfl, rfl, (by first | omega | (simp_all; done) | (simp_all; omega))⟩ ?_
  refine G.step (rd_loadE (s := .i _) (by decide) sc3) ⟨rfl, lb, rfl⟩ ?_
  refine G.step (rd_assign (s := .i _) (by decide)) rfl ?_
  refine G.done ?_
  refine W.ret (RetQV.mk (ss := [.i _]) (cs'' := [slOf _ _ _ _, .i _]) ⟨rfl, trivial⟩ rfl rfl ⟨rfl, rfl, trivial⟩ ?_ ?_ rfl rfl)
  all_goals (first | rfl | simp_all [resOf, pick, cellI, ints])

theorem new_ok (l : List Int) : FnN Try.prog 6 [ints l] 41 [ints (l.take 2000), .i 0] := by
  refine FnN.intro 10 Try.func6 rfl nm6 rfl lb (fun w F => ?_)
  refine W.seq ?_
  refine W.region ?_
  refine G.step (rd_assign (s := .val _) (by decide)) rfl ?_
  refine G.done ?_
  refine W.seq ?_
  refine W.region ?_
  refine G.step (rd_move (s := slOf _ _ _ _) (by decide)) rfl ?_
  refine G.step (rd_move (s := slOf _ _ _ _) (by decide)) rfl ?_
  refine G.step (rd_len (by decide) Try.underlying22) rfl ?_
  refine G.step (rd_min (by decide)) ⟨rfl, rfl⟩ ?_
  refine G.step (rd_sliceTo (kd := .i64) (by decide) el22) ⟨rfl, rfl, (by first | omega | (simp_all; done) | (simp_all; omega))⟩ ?_
  refine G.step (rd_build (zv := #[.slice none 0 0, .int .i64 0]) (parts := [(0, .tmp 7)]) (ss := [slOf _ _ _ _]) (zs := [slOf 1 cellI 0 [], .val (.int .i64 0)]) (cs := [slOf _ _ _ _, .i _]) (by decide) pl41 ze41 (⟨.inr ⟨_, _, rfl, rfl⟩, ⟨.inl ⟨rfl, rfl⟩, trivial⟩⟩)) ⟨⟨rfl, trivial⟩, rfl, rfl⟩ ?_
  refine G.step (rd_boxS (b := 9) (cs := [slOf _ _ _ _, .i _]) (by decide)) ⟨rfl, rfl, rfl⟩ ?_
  refine G.step (rd_assign (s := .ptr _ _) (by decide)) rfl ?_
  refine G.done ?_
  refine W.ret (RetQN.mk (cs'' := [slOf _ _ _ _, .i _]) rfl rfl rfl ⟨rfl, rfl, trivial⟩ ?_ rfl)
  (have e : (min (l.length : Int) 2000).toNat = min 2000 l.length := by omega); rw [e, ← List.take_take, List.take_length]; rfl

theorem rpass_ok (v : Valve) (n : Int) : FnC Try.prog 18 [v.sv, .i n] (.tup [(passV v n).1.sv, .i (passV v n).2]) := by
  refine FnC.intro 29 Try.func18 rfl nm18 rfl lb (fun w F => ?_)
  refine W.seq ?_
  refine W.region ?_
  refine G.step (rd_boxS (b := 2) (cs := [.i _, .i _, .b _, .b _]) (by decide)) ⟨rfl, rfl, rfl⟩ ?_
  refine G.step (rd_alloc (b := 4) (cs := [.val (.int .i64 0), .val (.int .i64 0), .val (.bool false), .val (.bool false)]) (by decide) ze26 (⟨.inl ⟨rfl, rfl⟩, ⟨.inl ⟨rfl, rfl⟩, ⟨.inl ⟨rfl, rfl⟩, ⟨.inl ⟨rfl, rfl⟩, trivial⟩⟩⟩⟩)) rfl ?_
  refine G.step (rd_assign (s := .i _) (by decide)) rfl ?_
  refine G.done ?_
  refine W.seq ?_
  refine W.seq ?_
  refine W.region ?_
  refine G.step (rd_loadVS (cs := [.i _, .i _, .b _, .b _]) (by decide) ag26) ⟨rfl, rfl, ⟨lb, rfl⟩, ⟨rfl, rfl, rfl, rfl, trivial⟩⟩ ?_
  refine G.step (rd_call (xs := [.tmp 7]) (by decide) (rvalid_ok _)) ⟨⟨rfl, trivial⟩, rfl⟩ ?_
  refine G.step (rd_not (by decide)) rfl ?_
  refine G.done ?_
  refine W.cond (t := _) rfl (fun h0 => ?_) (fun h0 => ?_)
  · (try simp only [Bool.and_eq_true, Bool.or_eq_true, Bool.not_eq_true', Bool.not_eq_false', Bool.and_eq_false_iff, Bool.or_eq_false_iff, decide_eq_true_eq, decide_eq_false_iff_not, beq_iff_eq, bne_iff_ne, Bool.not_true, Bool.not_false, Bool.not_not, beq_eq_false_iff_ne] at h0)
    refine W.seq ?_
    refine W.region ?_
    refine G.step (rd_loadVS (cs := [.i _, .i _, .b _, .b _]) (by decide) ag26) ⟨rfl, rfl, ⟨lb, rfl⟩, ⟨rfl, rfl, rfl, rfl, trivial⟩⟩ ?_
    refine G.step (rd_storeVS (cs := [.i _, .i _, .b _, .b _]) sz26) ⟨rfl, rfl, rfl, lb, rfl, rfl⟩ ?_
    refine G.step (rd_assign (s := .i _) (by decide)) rfl ?_
    refine G.done ?_
    refine W.ret (RetQ.mk (ss := [.agg [.i _, .i _, .b _, .b _], .i _]) ⟨⟨_, _, _, _, [.i _, .i _, .b _, .b _], rfl, rfl, ag26, lb, ⟨rfl, rfl, rfl, rfl, trivial⟩, rfl⟩, rfl, trivial⟩ ?_ rfl)
    simp_all [resOf, passV, Valve.sv]
  · (try simp only [Bool.and_eq_true, Bool.or_eq_true, Bool.not_eq_true', Bool.not_eq_false', Bool.and_eq_false_iff, Bool.or_eq_false_iff, decide_eq_true_eq, decide_eq_false_iff_not, beq_iff_eq, bne_iff_ne, Bool.not_true, Bool.not_false, Bool.not_not, beq_eq_false_iff_ne] at h0)
    obtain ⟨hb1, hb2, hb3, hb4⟩ := valid_bd h0
    obtain ⟨hg1, hg2⟩ := goal_bd h0
    refine W.skip ?_
    refine W.seq ?_
    refine W.seq ?_
    refine W.region ?_
    refine G.step (rd_move (s := .i _) (by decide)) rfl ?_
    refine G.step (rd_lss (k := .i64) (by decide)) ⟨rfl, rfl⟩ ?_
    refine G.step (rd_move (s := .b _) (by decide)) rfl ?_
    refine G.step (rd_guard (ts := []) (rd_move (s := .i _) (by decide)) rfl rfl rfl (by decide) (by decide)) ⟨rfl, trivial, fun hg => rfl⟩ ?_
    refine G.step (rd_guard (ts := [14]) (rd_gtr (k := .i64) (by decide)) rfl rfl rfl (by decide) (by decide)) ⟨rfl, ⟨fun h => by first | exact h | simp_all, trivial⟩, fun hg => ⟨rfl, rfl⟩⟩ ?_
    refine G.step (rd_pickOr (by decide)) ⟨rfl, rfl, fun hp => by first | (rw [hp]; rfl) | simp_all⟩ ?_
    refine G.done ?_
    refine W.cond (t := _) rfl (fun h1 => ?_) (fun h1 => ?_)
    · (try simp only [Bool.and_eq_true, Bool.or_eq_true, Bool.not_eq_true', Bool.not_eq_false', Bool.and_eq_false_iff, Bool.or_eq_false_iff, decide_eq_true_eq, decide_eq_false_iff_not, beq_iff_eq, bne_iff_ne, Bool.not_true, Bool.not_false, Bool.not_not, beq_eq_false_iff_ne] at h1)
      refine W.seq ?_
      refine W.region ?_
      refine G.step (rd_loadVS (cs := [.i _, .i _, .b _, .b _]) (by decide) ag26) ⟨rfl, rfl, ⟨lb, rfl⟩, ⟨rfl, rfl, rfl, rfl, trivial⟩⟩ ?_
      refine G.step (rd_storeVS (cs := [.i _, .i _, .b _, .b _]) sz26) ⟨rfl, rfl, rfl, lb, rfl, rfl⟩ ?_
      refine G.step (rd_assign (s := .i _) (by decide)) rfl ?_
      refine G.done ?_
      refine W.ret (RetQ.mk (ss := [.agg [.i _, .i _, .b _, .b _], .i _]) ⟨⟨_, _, _, _, [.i _, .i _, .b _, .b _], rfl, rfl, ag26, lb, ⟨rfl, rfl, rfl, rfl, trivial⟩, rfl⟩, rfl, trivial⟩ ?_ rfl)
      simp_all [resOf, passV, Valve.sv]
    · (try simp only [Bool.and_eq_true, Bool.or_eq_true, Bool.not_eq_true', Bool.not_eq_false', Bool.and_eq_false_iff, Bool.or_eq_false_iff, decide_eq_true_eq, decide_eq_false_iff_not, beq_iff_eq, bne_iff_ne, Bool.not_true, Bool.not_false, Bool.not_not, beq_eq_false_iff_ne] at h1)
      have hz := moved_zero h0
      refine W.skip ?_
      refine W.seq ?_
      refine W.seq ?_
      refine W.region ?_
      refine G.step (rd_assign (s := .i _) (by decide)) rfl ?_
      refine G.done ?_
      refine W.block ?_
      refine W.loop (α := Int) (fun i => mkSt [(0, .any), (1, .i n), (2, .ptr 2 0), (4, .ptr 4 0), (6, .i i)] [(2, 26, [.i (movedV v i).travel, .i (movedV v i).opn, .b (movedV v i).want, .b (movedV v i).stuck]), (4, 26, [.any, .any, .any, .any])] []) (fun i => 0 ≤ i ∧ i ≤ n) (fun i => (n - i).toNat) 0 (by exact Le.mk id ⟨trivial, ⟨(by first | rfl | (rw [hz]; rfl) | (rw [hs]; rfl)), rfl⟩, ⟨(by first | rfl | (rw [hz]; rfl) | (rw [hs]; rfl)), rfl⟩, ⟨(by first | rfl | (rw [hz]; rfl) | (rw [hs]; rfl)), rfl⟩, ⟨(by first | rfl | (rw [hz]; rfl) | (rw [hs]; rfl)), rfl⟩, trivial⟩ ⟨⟨_, rfl, rfl, ⟨⟨(by first | rfl | (rw [hz]; rfl) | (rw [hs]; rfl)), rfl⟩, ⟨(by first | rfl | (rw [hz]; rfl) | (rw [hs]; rfl)), rfl⟩, ⟨(by first | rfl | (rw [hz]; rfl) | (rw [hs]; rfl)), rfl⟩, ⟨(by first | rfl | (rw [hz]; rfl) | (rw [hs]; rfl)), rfl⟩, trivial⟩⟩, ⟨_, rfl, rfl, ⟨trivial, trivial, trivial, trivial, trivial⟩⟩, trivial⟩ trivial rfl PinOk.none) (by omega) (fun i hp => ?_)
      have hs := moved_step i h0 hp.1
      refine W.seq ?_
      refine W.seq ?_
      refine W.region ?_
      refine G.step (rd_move (s := .i _) (by decide)) rfl ?_
      refine G.step (rd_move (s := .i _) (by decide)) rfl ?_
      refine G.step (rd_lss (k := .i64) (by decide)) ⟨rfl, rfl⟩ ?_
      refine G.done ?_
      refine W.cond (t := _) rfl (fun h2 => ?_) (fun h2 => ?_)
      · (try simp only [Bool.and_eq_true, Bool.or_eq_true, Bool.not_eq_true', Bool.not_eq_false', Bool.and_eq_false_iff, Bool.or_eq_false_iff, decide_eq_true_eq, decide_eq_false_iff_not, beq_iff_eq, bne_iff_ne, Bool.not_true, Bool.not_false, Bool.not_not, beq_eq_false_iff_ne] at h2)
        refine W.skip ?_
        refine W.seq ?_
        refine W.block ?_
        refine W.region ?_
        refine G.step (rd_loadVS (cs := [.i _, .i _, .b _, .b _]) (by decide) ag26) ⟨rfl, rfl, ⟨lb, rfl⟩, ⟨rfl, rfl, rfl, rfl, trivial⟩⟩ ?_
        refine G.step (rd_call (xs := [.tmp 24]) (by decide) (rstep_ok (movedV v i))) ⟨⟨rfl, trivial⟩, rfl⟩ ?_
        refine G.step (rd_move (s := .tup [.agg [.i _, .i _, .b _, .b _], .i _]) (by decide)) rfl ?_
        refine G.step (rd_extract (s := .agg [.i _, .i _, .b _, .b _]) (by decide)) ⟨rfl, rfl⟩ ?_
        refine G.step (rd_extract (s := .i _) (by decide)) ⟨rfl, rfl⟩ ?_
        refine G.step (rd_storeVS (cs := [.i _, .i _, .b _, .b _]) sz26) ⟨rfl, rfl, rfl, lb, rfl, rfl⟩ ?_
        refine G.done ?_
        refine W.region ?_
        refine G.step (rd_move (s := .i _) (by decide)) rfl ?_
        refine G.step (rd_add (by decide)) ⟨rfl, rfl, (by first | omega | (simp_all; done) | (simp_all; omega))⟩ ?_
        refine G.step (rd_assign (s := .i _) (by decide)) rfl ?_
        refine G.done ?_
        refine Exists.intro (w := i + 1) ⟨by omega, by omega, (by exact Le.mk id ⟨trivial, ⟨(by first | rfl | (rw [hz]; rfl) | (rw [hs]; rfl)), rfl⟩, ⟨(by first | rfl | (rw [hz]; rfl) | (rw [hs]; rfl)), rfl⟩, ⟨(by first | rfl | (rw [hz]; rfl) | (rw [hs]; rfl)), rfl⟩, ⟨(by first | rfl | (rw [hz]; rfl) | (rw [hs]; rfl)), rfl⟩, trivial⟩ ⟨⟨_, rfl, rfl, ⟨⟨(by first | rfl | (rw [hz]; rfl) | (rw [hs]; rfl)), rfl⟩, ⟨(by first | rfl | (rw [hz]; rfl) | (rw [hs]; rfl)), rfl⟩, ⟨(by first | rfl | (rw [hz]; rfl) | (rw [hs]; rfl)), rfl⟩, ⟨(by first | rfl | (rw [hz]; rfl) | (rw [hs]; rfl)), rfl⟩, trivial⟩⟩, ⟨_, rfl, rfl, ⟨trivial, trivial, trivial, trivial, trivial⟩⟩, trivial⟩ trivial rfl PinOk.none)⟩
      · (try simp only [Bool.and_eq_true, Bool.or_eq_true, Bool.not_eq_true', Bool.not_eq_false', Bool.and_eq_false_iff, Bool.or_eq_false_iff, decide_eq_true_eq, decide_eq_false_iff_not, beq_iff_eq, bne_iff_ne, Bool.not_true, Bool.not_false, Bool.not_not, beq_eq_false_iff_ne] at h2)
        refine W.exit ?_
        refine W.seq ?_
        refine W.region ?_
        refine G.step (rd_loadVS (cs := [.i _, .i _, .b _, .b _]) (by decide) ag26) ⟨rfl, rfl, ⟨lb, rfl⟩, ⟨rfl, rfl, rfl, rfl, trivial⟩⟩ ?_
        refine G.step (rd_storeVS (cs := [.i _, .i _, .b _, .b _]) sz26) ⟨rfl, rfl, rfl, lb, rfl, rfl⟩ ?_
        refine G.step (rd_assign (s := .i _) (by decide)) rfl ?_
        refine G.done ?_
        refine W.ret (RetQ.mk (ss := [.agg [.i _, .i _, .b _, .b _], .i _]) ⟨⟨_, _, _, _, [.i _, .i _, .b _, .b _], rfl, rfl, ag26, lb, ⟨rfl, rfl, rfl, rfl, trivial⟩, rfl⟩, rfl, trivial⟩ ?_ rfl)
        (obtain rfl : i = n := by omega); simp only [passV, h0, if_neg (show ¬ (i < 0 ∨ 400 < i) by omega), resOf, Valve.sv]; rfl

theorem rleft_ok (v : Valve) : FnC Try.prog 23 [v.sv] (.i (leftI v)) := by
  refine FnC.intro 23 Try.func23 rfl nm23 rfl lb (fun w F => ?_)
  refine W.seq ?_
  refine W.region ?_
  refine G.step (rd_boxS (b := 1) (cs := [.i _, .i _, .b _, .b _]) (by decide)) ⟨rfl, rfl, rfl⟩ ?_
  refine G.step (rd_assign (s := .i _) (by decide)) rfl ?_
  refine G.done ?_
  refine W.seq ?_
  refine W.seq ?_
  refine W.region ?_
  refine G.step (rd_loadVS (cs := [.i _, .i _, .b _, .b _]) (by decide) ag26) ⟨rfl, rfl, ⟨lb, rfl⟩, ⟨rfl, rfl, rfl, rfl, trivial⟩⟩ ?_
  refine G.step (rd_call (xs := [.tmp 4]) (by decide) (rvalid_ok _)) ⟨⟨rfl, trivial⟩, rfl⟩ ?_
  refine G.step (rd_not (by decide)) rfl ?_
  refine G.done ?_
  refine W.cond (t := _) rfl (fun h0 => ?_) (fun h0 => ?_)
  · (try simp only [Bool.and_eq_true, Bool.or_eq_true, Bool.not_eq_true', Bool.not_eq_false', Bool.and_eq_false_iff, Bool.or_eq_false_iff, decide_eq_true_eq, decide_eq_false_iff_not, beq_iff_eq, bne_iff_ne, Bool.not_true, Bool.not_false, Bool.not_not, beq_eq_false_iff_ne] at h0)
    refine W.seq ?_
    refine W.region ?_
    refine G.step (rd_assign (s := .i _) (by decide)) rfl ?_
    refine G.done ?_
    refine W.ret (RetQ.mk (ss := [.i _]) ⟨rfl, trivial⟩ ?_ rfl)
    simp only [leftI, goalI, resOf]; simp_all; try grind
  · (try simp only [Bool.and_eq_true, Bool.or_eq_true, Bool.not_eq_true', Bool.not_eq_false', Bool.and_eq_false_iff, Bool.or_eq_false_iff, decide_eq_true_eq, decide_eq_false_iff_not, beq_iff_eq, bne_iff_ne, Bool.not_true, Bool.not_false, Bool.not_not, beq_eq_false_iff_ne] at h0)
    obtain ⟨hb1, hb2, hb3, hb4⟩ := valid_bd h0
    refine W.skip ?_
    refine W.seq ?_
    refine W.region ?_
    refine G.step (rd_fieldP (by decide) fl26_1) rfl ?_
    refine G.step (rd_loadV (s := .i _) (by decide) sc3) ⟨rfl, rfl, lb, rfl⟩ ?_
    refine G.step (rd_assign (s := .i _) (by decide)) rfl ?_
    refine G.done ?_
    refine W.seq ?_
    refine W.seq ?_
    refine W.region ?_
    refine G.step (rd_fieldP (by decide) fl26_2) rfl ?_
    refine G.step (rd_loadV (s := .b _) (by decide) sc4) ⟨rfl, rfl, lb, rfl⟩ ?_
    refine G.done ?_
    refine W.cond (t := _) rfl (fun h1 => ?_) (fun h1 => ?_)
    · (try simp only [Bool.and_eq_true, Bool.or_eq_true, Bool.not_eq_true', Bool.not_eq_false', Bool.and_eq_false_iff, Bool.or_eq_false_iff, decide_eq_true_eq, decide_eq_false_iff_not, beq_iff_eq, bne_iff_ne, Bool.not_true, Bool.not_false, Bool.not_not, beq_eq_false_iff_ne] at h1)
      refine W.region ?_
      refine G.step (rd_fieldP (by decide) fl26_0) rfl ?_
      refine G.step (rd_loadV (s := .i _) (by decide) sc3) ⟨rfl, rfl, lb, rfl⟩ ?_
      refine G.step (rd_fieldP (by decide) fl26_1) rfl ?_
      refine G.step (rd_loadV (s := .i _) (by decide) sc3) ⟨rfl, rfl, lb, rfl⟩ ?_
      refine G.step (rd_sub (by decide)) ⟨rfl, rfl, (by first | omega | (simp_all; done) | (simp_all; omega))⟩ ?_
      refine G.step (rd_assign (s := .i _) (by decide)) rfl ?_
      refine G.done ?_
      refine W.seq ?_
      refine W.seq ?_
      refine W.region ?_
      refine G.step (rd_fieldP (by decide) fl26_3) rfl ?_
      refine G.step (rd_loadV (s := .b _) (by decide) sc4) ⟨rfl, rfl, lb, rfl⟩ ?_
      refine G.step (rd_move (s := .b _) (by decide)) rfl ?_
      refine G.step (rd_guard (ts := []) (rd_move (s := .i _) (by decide)) rfl rfl rfl (by decide) (by decide)) ⟨rfl, trivial, fun hg => rfl⟩ ?_
      refine G.step (rd_guard (ts := [19]) (rd_gtr (k := .i64) (by decide)) rfl rfl rfl (by decide) (by decide)) ⟨rfl, ⟨fun h => by first | exact h | simp_all, trivial⟩, fun hg => ⟨rfl, rfl⟩⟩ ?_
      refine G.step (rd_pickAnd (by decide)) ⟨rfl, rfl, fun hp => by first | (rw [hp]; rfl) | simp_all⟩ ?_
      refine G.done ?_
      refine W.cond (t := _) rfl (fun h2 => ?_) (fun h2 => ?_)
      · (try simp only [Bool.and_eq_true, Bool.or_eq_true, Bool.not_eq_true', Bool.not_eq_false', Bool.and_eq_false_iff, Bool.or_eq_false_iff, decide_eq_true_eq, decide_eq_false_iff_not, beq_iff_eq, bne_iff_ne, Bool.not_true, Bool.not_false, Bool.not_not, beq_eq_false_iff_ne] at h2)
        refine W.seq ?_
        refine W.region ?_
        refine G.step (rd_assign (s := .i _) (by decide)) rfl ?_
        refine G.done ?_
        refine W.ret (RetQ.mk (ss := [.i _]) ⟨rfl, trivial⟩ ?_ rfl)
        simp only [leftI, goalI, resOf]; simp_all; try grind
      · (try simp only [Bool.and_eq_true, Bool.or_eq_true, Bool.not_eq_true', Bool.not_eq_false', Bool.and_eq_false_iff, Bool.or_eq_false_iff, decide_eq_true_eq, decide_eq_false_iff_not, beq_iff_eq, bne_iff_ne, Bool.not_true, Bool.not_false, Bool.not_not, beq_eq_false_iff_ne] at h2)
        refine W.skip ?_
        refine W.seq ?_
        refine W.region ?_
        refine G.step (rd_move (s := .i _) (by decide)) rfl ?_
        refine G.step (rd_assign (s := .i _) (by decide)) rfl ?_
        refine G.done ?_
        refine W.ret (RetQ.mk (ss := [.i _]) ⟨rfl, trivial⟩ ?_ rfl)
        simp only [leftI, goalI, resOf]; simp_all; try grind
    · (try simp only [Bool.and_eq_true, Bool.or_eq_true, Bool.not_eq_true', Bool.not_eq_false', Bool.and_eq_false_iff, Bool.or_eq_false_iff, decide_eq_true_eq, decide_eq_false_iff_not, beq_iff_eq, bne_iff_ne, Bool.not_true, Bool.not_false, Bool.not_not, beq_eq_false_iff_ne] at h1)
      refine W.skip ?_
      refine W.seq ?_
      refine W.seq ?_
      refine W.region ?_
      refine G.step (rd_fieldP (by decide) fl26_3) rfl ?_
      refine G.step (rd_loadV (s := .b _) (by decide) sc4) ⟨rfl, rfl, lb, rfl⟩ ?_
      refine G.step (rd_move (s := .b _) (by decide)) rfl ?_
      refine G.step (rd_guard (ts := []) (rd_move (s := .i _) (by decide)) rfl rfl rfl (by decide) (by decide)) ⟨rfl, trivial, fun hg => rfl⟩ ?_
      refine G.step (rd_guard (ts := [19]) (rd_gtr (k := .i64) (by decide)) rfl rfl rfl (by decide) (by decide)) ⟨rfl, ⟨fun h => by first | exact h | simp_all, trivial⟩, fun hg => ⟨rfl, rfl⟩⟩ ?_
      refine G.step (rd_pickAnd (by decide)) ⟨rfl, rfl, fun hp => by first | (rw [hp]; rfl) | simp_all⟩ ?_
      refine G.done ?_
      refine W.cond (t := _) rfl (fun h3 => ?_) (fun h3 => ?_)
      · (try simp only [Bool.and_eq_true, Bool.or_eq_true, Bool.not_eq_true', Bool.not_eq_false', Bool.and_eq_false_iff, Bool.or_eq_false_iff, decide_eq_true_eq, decide_eq_false_iff_not, beq_iff_eq, bne_iff_ne, Bool.not_true, Bool.not_false, Bool.not_not, beq_eq_false_iff_ne] at h3)
        refine W.seq ?_
        refine W.region ?_
        refine G.step (rd_assign (s := .i _) (by decide)) rfl ?_
        refine G.done ?_
        refine W.ret (RetQ.mk (ss := [.i _]) ⟨rfl, trivial⟩ ?_ rfl)
        simp only [leftI, goalI, resOf]; simp_all; try grind
      · (try simp only [Bool.and_eq_true, Bool.or_eq_true, Bool.not_eq_true', Bool.not_eq_false', Bool.and_eq_false_iff, Bool.or_eq_false_iff, decide_eq_true_eq, decide_eq_false_iff_not, beq_iff_eq, bne_iff_ne, Bool.not_true, Bool.not_false, Bool.not_not, beq_eq_false_iff_ne] at h3)
        refine W.skip ?_
        refine W.seq ?_
        refine W.region ?_
        refine G.step (rd_move (s := .i _) (by decide)) rfl ?_
        refine G.step (rd_assign (s := .i _) (by decide)) rfl ?_
        refine G.done ?_
        refine W.ret (RetQ.mk (ss := [.i _]) ⟨rfl, trivial⟩ ?_ rfl)
        simp only [leftI, goalI, resOf]; simp_all; try grind

theorem awake_ok  : FnC Try.prog 12 [] (.b true) := by
  refine FnC.intro 29 Try.func12 rfl nm12 rfl lb (fun w F => ?_)
  refine W.seq ?_
  refine W.region ?_
  refine G.step (rd_assign (s := .b _) (by decide)) rfl ?_
  refine G.done ?_
  refine W.seq ?_
  refine W.region ?_
  refine G.step (rd_build (zv := #[.int .i64 0, .int .i64 0, .bool false, .bool false]) (parts := [(0, .const (.int .i64 3)), (2, .const (.bool true))]) (ss := [.i _, .b _]) (zs := [.val (.int .i64 0), .val (.int .i64 0), .val (.bool false), .val (.bool false)]) (cs := [.i _, .i _, .b _, .b _]) (by decide) pl26 ze26 (⟨.inl ⟨rfl, rfl⟩, ⟨.inl ⟨rfl, rfl⟩, ⟨.inl ⟨rfl, rfl⟩, ⟨.inl ⟨rfl, rfl⟩, trivial⟩⟩⟩⟩)) ⟨⟨rfl, rfl, trivial⟩, rfl, rfl⟩ ?_
  refine G.step (rd_call (xs := [.tmp 4, .const (.int .i64 2)]) (by decide) (pass_ok ⟨_, _, _, _⟩ _)) ⟨⟨rfl, rfl, trivial⟩, rfl⟩ ?_
  refine G.step (rd_move (s := .tup [.agg [.i _, .i _, .b _, .b _], .i _]) (by decide)) rfl ?_
  refine G.step (rd_extract (s := .agg [.i _, .i _, .b _, .b _]) (by decide)) ⟨rfl, rfl⟩ ?_
  refine G.step (rd_extract (s := .i _) (by decide)) ⟨rfl, rfl⟩ ?_
  refine G.step (rd_alloc (b := 1) (cs := [.val (.int .i64 0), .val (.int .i64 0), .val (.bool false), .val (.bool false)]) (by decide) ze26 (⟨.inl ⟨rfl, rfl⟩, ⟨.inl ⟨rfl, rfl⟩, ⟨.inl ⟨rfl, rfl⟩, ⟨.inl ⟨rfl, rfl⟩, trivial⟩⟩⟩⟩)) rfl ?_
  refine G.step (rd_storeVS (cs := [.i _, .i _, .b _, .b _]) sz26) ⟨rfl, rfl, rfl, lb, rfl, rfl⟩ ?_
  refine G.step (rd_assign (s := .i _) (by decide)) rfl ?_
  refine G.done ?_
  refine W.seq ?_
  refine W.region ?_
  refine G.step (rd_move (s := .i _) (by decide)) rfl ?_
  refine G.step (rd_eql (k := .i64) (by decide)) ⟨rfl, rfl⟩ ?_
  refine G.step (rd_move (s := .b _) (by decide)) rfl ?_
  refine G.step (rd_guard (ts := []) (rd_fieldP (by decide) fl26_1) rfl rfl rfl (by decide) (by decide)) ⟨rfl, trivial, fun hg => rfl⟩ ?_
  refine G.step (rd_guard (ts := [11]) (rd_loadV (s := .i _) (by decide) sc3) rfl rfl rfl (by decide) (by decide)) ⟨rfl, ⟨fun h => by first | exact h | simp_all, trivial⟩, fun hg => ⟨rfl, rfl, lb, rfl⟩⟩ ?_
  refine G.step (rd_guard (ts := [12]) (rd_eql (k := .i64) (by decide)) rfl rfl rfl (by decide) (by decide)) ⟨rfl, ⟨fun h => by first | exact h | simp_all, trivial⟩, fun hg => ⟨rfl, rfl⟩⟩ ?_
  refine G.step (rd_pickAnd (by decide)) ⟨rfl, rfl, fun hp => by first | (rw [hp]; rfl) | simp_all⟩ ?_
  refine G.step (rd_move (s := .b _) (by decide)) rfl ?_
  refine G.step (rd_guard (ts := []) (rd_loadVS (cs := [.i _, .i _, .b _, .b _]) (by decide) ag26) rfl rfl rfl (by decide) (by decide)) ⟨rfl, trivial, fun hg => ⟨rfl, rfl, ⟨lb, rfl⟩, ⟨rfl, rfl, rfl, rfl, trivial⟩⟩⟩ ?_
  refine G.step (rd_guard (ts := [16]) (rd_call (xs := [.tmp 16]) (by decide) (left_ok ⟨_, _, _, _⟩)) rfl rfl rfl (by decide) (by decide)) ⟨rfl, ⟨fun h => by first | exact h | simp_all, trivial⟩, fun hg => ⟨⟨rfl, trivial⟩, rfl⟩⟩ ?_
  refine G.step (rd_guard (ts := [17]) (rd_eql (k := .i64) (by decide)) rfl rfl rfl (by decide) (by decide)) ⟨rfl, ⟨fun h => by first | exact h | simp_all, trivial⟩, fun hg => ⟨rfl, rfl⟩⟩ ?_
  refine G.step (rd_pickAnd (by decide)) ⟨rfl, rfl, fun hp => by first | (rw [hp]; rfl) | simp_all⟩ ?_
  refine G.step (rd_move (s := .b _) (by decide)) rfl ?_
  refine G.step (rd_guard (ts := []) (rd_loadVS (cs := [.i _, .i _, .b _, .b _]) (by decide) ag26) rfl rfl rfl (by decide) (by decide)) ⟨rfl, trivial, fun hg => ⟨rfl, rfl, ⟨lb, rfl⟩, ⟨rfl, rfl, rfl, rfl, trivial⟩⟩⟩ ?_
  refine G.step (rd_guard (ts := [21]) (rd_call (xs := [.tmp 21]) (by decide) (open_ok ⟨_, _, _, _⟩)) rfl rfl rfl (by decide) (by decide)) ⟨rfl, ⟨fun h => by first | exact h | simp_all, trivial⟩, fun hg => ⟨⟨rfl, trivial⟩, rfl⟩⟩ ?_
  refine G.step (rd_guard (ts := [22]) (rd_not (by decide)) rfl rfl rfl (by decide) (by decide)) ⟨rfl, ⟨fun h => by first | exact h | simp_all, trivial⟩, fun hg => rfl⟩ ?_
  refine G.step (rd_pickAnd (by decide)) ⟨rfl, rfl, fun hp => by first | (rw [hp]; rfl) | simp_all⟩ ?_
  refine G.step (rd_move (s := .b _) (by decide)) rfl ?_
  refine G.step (rd_guard (ts := []) (rd_loadVS (cs := [.i _, .i _, .b _, .b _]) (by decide) ag26) rfl rfl rfl (by decide) (by decide)) ⟨rfl, trivial, fun hg => ⟨rfl, rfl, ⟨lb, rfl⟩, ⟨rfl, rfl, rfl, rfl, trivial⟩⟩⟩ ?_
  refine G.step (rd_guard (ts := [26]) (rd_call (xs := [.tmp 26]) (by decide) (valid_ok ⟨_, _, _, _⟩)) rfl rfl rfl (by decide) (by decide)) ⟨rfl, ⟨fun h => by first | exact h | simp_all, trivial⟩, fun hg => ⟨⟨rfl, trivial⟩, rfl⟩⟩ ?_
  refine G.step (rd_pickAnd (by decide)) ⟨rfl, rfl, fun hp => by first | (rw [hp]; rfl) | simp_all⟩ ?_
  refine G.step (rd_assign (s := .b _) (by decide)) rfl ?_
  refine G.done ?_
  refine W.ret (RetQ.mk (ss := [.b _]) ⟨rfl, trivial⟩ ?_ rfl)
  rfl

theorem smod_ok (x n : Int) (hx : -9223372036854775808 ≤ x ∧ x ≤ 9223372036854775807) (hn : n ≤ 9223372036854775807) : FnC Try.prog 14 [.i x, .i n] (.i (modI x n)) := by
  refine FnC.intro 8 Try.func14 rfl nm14 rfl lb (fun w F => ?_)
  refine W.seq ?_
  refine W.region ?_
  refine G.step (rd_assign (s := .i _) (by decide)) rfl ?_
  refine G.done ?_
  refine W.seq ?_
  refine W.region ?_
  refine G.step (rd_move (s := .i _) (by decide)) rfl ?_
  refine G.step (rd_move (s := .i _) (by decide)) rfl ?_
  refine G.step (rd_call (xs := [.tmp 5, .tmp 6]) (by decide) (mod_ok _ _ (by omega) (by omega))) ⟨⟨rfl, rfl, trivial⟩, rfl⟩ ?_
  refine G.step (rd_assign (s := .i _) (by decide)) rfl ?_
  refine G.done ?_
  refine W.ret (RetQ.mk (ss := [.i _]) ⟨rfl, trivial⟩ ?_ rfl)
  rfl

theorem valveRaw_ok (v : Valve) (b : Bool) (n : Int) (sm : Bool) (hv : v.fits) (hn : -9223372036854775808 ≤ n ∧ n ≤ 9223372036854775807) : FnC Try.prog 5 [v.sv, .b b, .i n, .b sm] (.b true) := by
  obtain ⟨hv1, hv2, hv3, hv4⟩ := hv
  have hm1 := modI_bd n 405 (by omega)
  refine FnC.intro 126 Try.func5 rfl nm5 rfl lb (fun w F => ?_)
  refine W.seq ?_
  refine W.region ?_
  refine G.step (rd_boxS (b := 4) (cs := [.i _, .i _, .b _, .b _]) (by decide)) ⟨rfl, rfl, rfl⟩ ?_
  refine G.step (rd_assign (s := .b _) (by decide)) rfl ?_
  refine G.done ?_
  refine W.seq ?_
  refine W.seq ?_
  refine W.region ?_
  refine G.step (rd_move (s := .b _) (by decide)) rfl ?_
  refine G.done ?_
  refine W.cond (t := _) rfl (fun h0 => ?_) (fun h0 => ?_)
  · (try simp only [Bool.and_eq_true, Bool.or_eq_true, Bool.not_eq_true', Bool.not_eq_false', Bool.and_eq_false_iff, Bool.or_eq_false_iff, decide_eq_true_eq, decide_eq_false_iff_not, beq_iff_eq, bne_iff_ne, Bool.not_true, Bool.not_false, Bool.not_not, beq_eq_false_iff_ne] at h0)
    refine W.drawn mx ?_
    refine G.step (rd_fieldP (by decide) fl26_0) rfl ?_
    refine G.step (rd_loadV (s := .i _) (by decide) sc3) ⟨rfl, rfl, lb, rfl⟩ ?_
    refine G.step (rd_call (xs := [.tmp 23, .const (.int .i64 64)]) (by decide) (smod_ok _ _ (by omega) (by omega))) ⟨⟨rfl, rfl, trivial⟩, rfl⟩ ?_
    refine G.step (rd_fieldP (by decide) fl26_1) rfl ?_
    refine G.step (rd_loadV (s := .i _) (by decide) sc3) ⟨rfl, rfl, lb, rfl⟩ ?_
    refine G.step (rd_call (xs := [.tmp 26, .const (.int .i64 64)]) (by decide) (smod_ok _ _ (by omega) (by omega))) ⟨⟨rfl, rfl, trivial⟩, rfl⟩ ?_
    refine G.step (rd_move (s := .i _) (by decide)) rfl ?_
    refine G.step (rd_call (xs := [.tmp 28, .const (.int .i64 405)]) (by decide) (smod_ok _ _ (by omega) (by omega))) ⟨⟨rfl, rfl, trivial⟩, rfl⟩ ?_
    refine G.step (rd_sub (by decide)) ⟨rfl, rfl, (by first | omega | (simp_all; done) | (simp_all; omega))⟩ ?_
    refine G.step (rd_fieldP (by decide) fl26_0) rfl ?_
    refine G.step (rd_storeV (s := .i _) sz3) ⟨rfl, rfl, rfl, lb, rfl⟩ ?_
    refine G.step (rd_fieldP (by decide) fl26_1) rfl ?_
    refine G.step (rd_storeV (s := .i _) sz3) ⟨rfl, rfl, rfl, lb, rfl⟩ ?_
    refine G.step (rd_assign (s := .i _) (by decide)) rfl ?_
    refine G.drawn (by kernel_rfl) ?_
    refine W.seq ?_
    refine W.region ?_
    refine G.step (rd_loadVS (cs := [.i _, .i _, .b _, .b _]) (by decide) ag26) ⟨rfl, rfl, ⟨lb, rfl⟩, ⟨rfl, rfl, rfl, rfl, trivial⟩⟩ ?_
    refine G.step (rd_move (s := .b _) (by decide)) rfl ?_
    refine G.step (rd_call (xs := [.tmp 34, .tmp 35]) (by decide) (command_ok ⟨_, _, _, _⟩ _)) ⟨⟨rfl, rfl, trivial⟩, rfl⟩ ?_
    refine G.step (rd_move (s := .tup [.agg [.i _, .i _, .b _, .b _], .i _]) (by decide)) rfl ?_
    refine G.step (rd_extract (s := .agg [.i _, .i _, .b _, .b _]) (by decide)) ⟨rfl, rfl⟩ ?_
    refine G.step (rd_extract (s := .i _) (by decide)) ⟨rfl, rfl⟩ ?_
    refine G.step (rd_alloc (b := 9) (cs := [.val (.int .i64 0), .val (.int .i64 0), .val (.bool false), .val (.bool false)]) (by decide) ze26 (⟨.inl ⟨rfl, rfl⟩, ⟨.inl ⟨rfl, rfl⟩, ⟨.inl ⟨rfl, rfl⟩, ⟨.inl ⟨rfl, rfl⟩, trivial⟩⟩⟩⟩)) rfl ?_
    refine G.step (rd_storeVS (cs := [.i _, .i _, .b _, .b _]) sz26) ⟨rfl, rfl, rfl, lb, rfl, rfl⟩ ?_
    refine G.step (rd_assign (s := .i _) (by decide)) rfl ?_
    refine G.done ?_
    refine W.seq ?_
    refine W.region ?_
    refine G.step (rd_loadVS (cs := [.i _, .i _, .b _, .b _]) (by decide) ag26) ⟨rfl, rfl, ⟨lb, rfl⟩, ⟨rfl, rfl, rfl, rfl, trivial⟩⟩ ?_
    refine G.step (rd_move (s := .b _) (by decide)) rfl ?_
    refine G.step (rd_call (xs := [.tmp 40, .tmp 41]) (by decide) (rcommand_ok ⟨_, _, _, _⟩ _)) ⟨⟨rfl, rfl, trivial⟩, rfl⟩ ?_
    refine G.step (rd_move (s := .tup [.agg [.i _, .i _, .b _, .b _], .i _]) (by decide)) rfl ?_
    refine G.step (rd_extract (s := .agg [.i _, .i _, .b _, .b _]) (by decide)) ⟨rfl, rfl⟩ ?_
    refine G.step (rd_extract (s := .i _) (by decide)) ⟨rfl, rfl⟩ ?_
    refine G.step (rd_alloc (b := 11) (cs := [.val (.int .i64 0), .val (.int .i64 0), .val (.bool false), .val (.bool false)]) (by decide) ze26 (⟨.inl ⟨rfl, rfl⟩, ⟨.inl ⟨rfl, rfl⟩, ⟨.inl ⟨rfl, rfl⟩, ⟨.inl ⟨rfl, rfl⟩, trivial⟩⟩⟩⟩)) rfl ?_
    refine G.step (rd_storeVS (cs := [.i _, .i _, .b _, .b _]) sz26) ⟨rfl, rfl, rfl, lb, rfl, rfl⟩ ?_
    refine G.step (rd_assign (s := .i _) (by decide)) rfl ?_
    refine G.done ?_
    refine W.prune (regs := [(2, .i _), (4, .ptr _ _), (8, .b _), (9, .ptr _ _), (10, .i _), (11, .ptr _ _), (12, .i _)]) (vars := [(4, _, [.i _, .i _, .b _, .b _]), (9, _, [.i _, .i _, .b _, .b _]), (11, _, [.i _, .i _, .b _, .b _])]) (arrs := []) ⟨⟨rfl, rfl⟩, ⟨rfl, rfl⟩, ⟨rfl, rfl⟩, ⟨rfl, rfl⟩, ⟨rfl, rfl⟩, ⟨rfl, rfl⟩, ⟨rfl, rfl⟩, trivial⟩ ⟨⟨_, rfl, rfl, ⟨⟨rfl, rfl⟩, ⟨rfl, rfl⟩, ⟨rfl, rfl⟩, ⟨rfl, rfl⟩, trivial⟩⟩, ⟨_, rfl, rfl, ⟨⟨rfl, rfl⟩, ⟨rfl, rfl⟩, ⟨rfl, rfl⟩, ⟨rfl, rfl⟩, trivial⟩⟩, ⟨_, rfl, rfl, ⟨⟨rfl, rfl⟩, ⟨rfl, rfl⟩, ⟨rfl, rfl⟩, ⟨rfl, rfl⟩, trivial⟩⟩, trivial⟩ trivial rfl PinOk.none ?_
    refine W.seq ?_
    refine W.region ?_
    refine G.step (rd_loadVS (cs := [.i _, .i _, .b _, .b _]) (by decide) ag26) ⟨rfl, rfl, ⟨lb, rfl⟩, ⟨rfl, rfl, rfl, rfl, trivial⟩⟩ ?_
    refine G.step (rd_call (xs := [.tmp 46]) (by decide) (step_ok ⟨_, _, _, _⟩)) ⟨⟨rfl, trivial⟩, rfl⟩ ?_
    refine G.step (rd_move (s := .tup [.agg [.i _, .i _, .b _, .b _], .i _]) (by decide)) rfl ?_
    refine G.step (rd_extract (s := .agg [.i _, .i _, .b _, .b _]) (by decide)) ⟨rfl, rfl⟩ ?_
    refine G.step (rd_extract (s := .i _) (by decide)) ⟨rfl, rfl⟩ ?_
    refine G.step (rd_alloc (b := 13) (cs := [.val (.int .i64 0), .val (.int .i64 0), .val (.bool false), .val (.bool false)]) (by decide) ze26 (⟨.inl ⟨rfl, rfl⟩, ⟨.inl ⟨rfl, rfl⟩, ⟨.inl ⟨rfl, rfl⟩, ⟨.inl ⟨rfl, rfl⟩, trivial⟩⟩⟩⟩)) rfl ?_
    refine G.step (rd_storeVS (cs := [.i _, .i _, .b _, .b _]) sz26) ⟨rfl, rfl, rfl, lb, rfl, rfl⟩ ?_
    refine G.step (rd_assign (s := .i _) (by decide)) rfl ?_
    refine G.done ?_
    refine W.seq ?_
    refine W.region ?_
    refine G.step (rd_loadVS (cs := [.i _, .i _, .b _, .b _]) (by decide) ag26) ⟨rfl, rfl, ⟨lb, rfl⟩, ⟨rfl, rfl, rfl, rfl, trivial⟩⟩ ?_
    refine G.step (rd_call (xs := [.tmp 51]) (by decide) (rstep_ok ⟨_, _, _, _⟩)) ⟨⟨rfl, trivial⟩, rfl⟩ ?_
    refine G.step (rd_move (s := .tup [.agg [.i _, .i _, .b _, .b _], .i _]) (by decide)) rfl ?_
    refine G.step (rd_extract (s := .agg [.i _, .i _, .b _, .b _]) (by decide)) ⟨rfl, rfl⟩ ?_
    refine G.step (rd_extract (s := .i _) (by decide)) ⟨rfl, rfl⟩ ?_
    refine G.step (rd_alloc (b := 15) (cs := [.val (.int .i64 0), .val (.int .i64 0), .val (.bool false), .val (.bool false)]) (by decide) ze26 (⟨.inl ⟨rfl, rfl⟩, ⟨.inl ⟨rfl, rfl⟩, ⟨.inl ⟨rfl, rfl⟩, ⟨.inl ⟨rfl, rfl⟩, trivial⟩⟩⟩⟩)) rfl ?_
    refine G.step (rd_storeVS (cs := [.i _, .i _, .b _, .b _]) sz26) ⟨rfl, rfl, rfl, lb, rfl, rfl⟩ ?_
    refine G.step (rd_assign (s := .i _) (by decide)) rfl ?_
    refine G.done ?_
    refine W.seq ?_
    refine W.region ?_
    refine G.step (rd_loadVS (cs := [.i _, .i _, .b _, .b _]) (by decide) ag26) ⟨rfl, rfl, ⟨lb, rfl⟩, ⟨rfl, rfl, rfl, rfl, trivial⟩⟩ ?_
    refine G.step (rd_move (s := .i _) (by decide)) rfl ?_
    refine G.step (rd_call (xs := [.tmp 56, .tmp 57]) (by decide) (pass_ok ⟨_, _, _, _⟩ _)) ⟨⟨rfl, rfl, trivial⟩, rfl⟩ ?_
    refine G.step (rd_move (s := .tup [.agg [.i _, .i _, .b _, .b _], .i _]) (by decide)) rfl ?_
    refine G.step (rd_extract (s := .agg [.i _, .i _, .b _, .b _]) (by decide)) ⟨rfl, rfl⟩ ?_
    refine G.step (rd_extract (s := .i _) (by decide)) ⟨rfl, rfl⟩ ?_
    refine G.step (rd_alloc (b := 17) (cs := [.val (.int .i64 0), .val (.int .i64 0), .val (.bool false), .val (.bool false)]) (by decide) ze26 (⟨.inl ⟨rfl, rfl⟩, ⟨.inl ⟨rfl, rfl⟩, ⟨.inl ⟨rfl, rfl⟩, ⟨.inl ⟨rfl, rfl⟩, trivial⟩⟩⟩⟩)) rfl ?_
    refine G.step (rd_storeVS (cs := [.i _, .i _, .b _, .b _]) sz26) ⟨rfl, rfl, rfl, lb, rfl, rfl⟩ ?_
    refine G.step (rd_assign (s := .i _) (by decide)) rfl ?_
    refine G.done ?_
    refine W.seq ?_
    refine W.region ?_
    refine G.step (rd_loadVS (cs := [.i _, .i _, .b _, .b _]) (by decide) ag26) ⟨rfl, rfl, ⟨lb, rfl⟩, ⟨rfl, rfl, rfl, rfl, trivial⟩⟩ ?_
    refine G.step (rd_move (s := .i _) (by decide)) rfl ?_
    refine G.step (rd_call (xs := [.tmp 62, .tmp 63]) (by decide) (rpass_ok ⟨_, _, _, _⟩ _)) ⟨⟨rfl, rfl, trivial⟩, rfl⟩ ?_
    refine G.step (rd_move (s := .tup [.agg [.i _, .i _, .b _, .b _], .i _]) (by decide)) rfl ?_
    refine G.step (rd_extract (s := .agg [.i _, .i _, .b _, .b _]) (by decide)) ⟨rfl, rfl⟩ ?_
    refine G.step (rd_extract (s := .i _) (by decide)) ⟨rfl, rfl⟩ ?_
    refine G.step (rd_alloc (b := 19) (cs := [.val (.int .i64 0), .val (.int .i64 0), .val (.bool false), .val (.bool false)]) (by decide) ze26 (⟨.inl ⟨rfl, rfl⟩, ⟨.inl ⟨rfl, rfl⟩, ⟨.inl ⟨rfl, rfl⟩, ⟨.inl ⟨rfl, rfl⟩, trivial⟩⟩⟩⟩)) rfl ?_
    refine G.step (rd_storeVS (cs := [.i _, .i _, .b _, .b _]) sz26) ⟨rfl, rfl, rfl, lb, rfl, rfl⟩ ?_
    refine G.step (rd_assign (s := .i _) (by decide)) rfl ?_
    refine G.done ?_
    refine W.prune (regs := [(4, .ptr _ _), (8, .b _), (9, .ptr _ _), (10, .i _), (11, .ptr _ _), (12, .i _), (13, .ptr _ _), (14, .i _), (15, .ptr _ _), (16, .i _), (17, .ptr _ _), (18, .i _), (19, .ptr _ _), (20, .i _)]) (vars := [(4, _, [.i _, .i _, .b _, .b _]), (9, _, [.i _, .i _, .b _, .b _]), (11, _, [.i _, .i _, .b _, .b _]), (13, _, [.i _, .i _, .b _, .b _]), (15, _, [.i _, .i _, .b _, .b _]), (17, _, [.i _, .i _, .b _, .b _]), (19, _, [.i _, .i _, .b _, .b _])]) (arrs := []) ⟨⟨rfl, rfl⟩, ⟨rfl, rfl⟩, ⟨rfl, rfl⟩, ⟨rfl, rfl⟩, ⟨rfl, rfl⟩, ⟨rfl, rfl⟩, ⟨rfl, rfl⟩, ⟨rfl, rfl⟩, ⟨rfl, rfl⟩, ⟨rfl, rfl⟩, ⟨rfl, rfl⟩, ⟨rfl, rfl⟩, ⟨rfl, rfl⟩, ⟨rfl, rfl⟩, trivial⟩ ⟨⟨_, rfl, rfl, ⟨⟨rfl, rfl⟩, ⟨rfl, rfl⟩, ⟨rfl, rfl⟩, ⟨rfl, rfl⟩, trivial⟩⟩, ⟨_, rfl, rfl, ⟨⟨rfl, rfl⟩, ⟨rfl, rfl⟩, ⟨rfl, rfl⟩, ⟨rfl, rfl⟩, trivial⟩⟩, ⟨_, rfl, rfl, ⟨⟨rfl, rfl⟩, ⟨rfl, rfl⟩, ⟨rfl, rfl⟩, ⟨rfl, rfl⟩, trivial⟩⟩, ⟨_, rfl, rfl, ⟨⟨rfl, rfl⟩, ⟨rfl, rfl⟩, ⟨rfl, rfl⟩, ⟨rfl, rfl⟩, trivial⟩⟩, ⟨_, rfl, rfl, ⟨⟨rfl, rfl⟩, ⟨rfl, rfl⟩, ⟨rfl, rfl⟩, ⟨rfl, rfl⟩, trivial⟩⟩, ⟨_, rfl, rfl, ⟨⟨rfl, rfl⟩, ⟨rfl, rfl⟩, ⟨rfl, rfl⟩, ⟨rfl, rfl⟩, trivial⟩⟩, ⟨_, rfl, rfl, ⟨⟨rfl, rfl⟩, ⟨rfl, rfl⟩, ⟨rfl, rfl⟩, ⟨rfl, rfl⟩, trivial⟩⟩, trivial⟩ trivial rfl PinOk.none ?_
    refine W.seq ?_
    refine W.drawn mx ?_
    refine G.step (rd_loadVS (cs := [.i _, .i _, .b _, .b _]) (by decide) ag26) ⟨rfl, rfl, ⟨lb, rfl⟩, ⟨rfl, rfl, rfl, rfl, trivial⟩⟩ ?_
    refine G.step (rd_loadVS (cs := [.i _, .i _, .b _, .b _]) (by decide) ag26) ⟨rfl, rfl, ⟨lb, rfl⟩, ⟨rfl, rfl, rfl, rfl, trivial⟩⟩ ?_
    refine G.step (rd_eqlS (xs := [.int .i64 _, .int .i64 _, .bool _, .bool _]) (ys := [.int .i64 _, .int .i64 _, .bool _, .bool _]) (by decide) Try.eqGuardType26 (fun w => ef26 _ _ _ _ _ _ _ _ w)) ⟨rfl, rfl⟩ ?_
    refine G.step (rd_move (s := .b _) (by decide)) rfl ?_
    refine G.step (rd_guard (ts := []) (rd_move (s := .i _) (by decide)) rfl rfl rfl (by decide) (by decide)) ⟨rfl, trivial, fun hg => rfl⟩ ?_
    refine G.step (rd_guard (ts := []) (rd_move (s := .i _) (by decide)) rfl rfl rfl (by decide) (by decide)) ⟨rfl, trivial, fun hg => rfl⟩ ?_
    refine G.step (rd_guard (ts := [71, 72]) (rd_eql (k := .i64) (by decide)) rfl rfl rfl (by decide) (by decide)) ⟨rfl, ⟨fun h => by first | exact h | simp_all, fun h => by first | exact h | simp_all, trivial⟩, fun hg => ⟨rfl, rfl⟩⟩ ?_
    refine G.step (rd_pickAnd (by decide)) ⟨rfl, rfl, fun hp => by first | (rw [hp]; rfl) | simp_all⟩ ?_
    refine G.step (rd_move (s := .b _) (by decide)) rfl ?_
    refine G.step (rd_guard (ts := []) (rd_loadVS (cs := [.i _, .i _, .b _, .b _]) (by decide) ag26) rfl rfl rfl (by decide) (by decide)) ⟨rfl, trivial, fun hg => ⟨rfl, rfl, ⟨lb, rfl⟩, ⟨rfl, rfl, rfl, rfl, trivial⟩⟩⟩ ?_
    refine G.step (rd_guard (ts := []) (rd_loadVS (cs := [.i _, .i _, .b _, .b _]) (by decide) ag26) rfl rfl rfl (by decide) (by decide)) ⟨rfl, trivial, fun hg => ⟨rfl, rfl, ⟨lb, rfl⟩, ⟨rfl, rfl, rfl, rfl, trivial⟩⟩⟩ ?_
    refine G.step (rd_guard (ts := [76, 77]) (rd_eqlS (xs := [.int .i64 _, .int .i64 _, .bool _, .bool _]) (ys := [.int .i64 _, .int .i64 _, .bool _, .bool _]) (by decide) Try.eqGuardType26 (fun w => ef26 _ _ _ _ _ _ _ _ w)) rfl rfl rfl (by decide) (by decide)) ⟨rfl, ⟨fun h => by first | exact h | simp_all, fun h => by first | exact h | simp_all, trivial⟩, fun hg => ⟨rfl, rfl⟩⟩ ?_
    refine G.step (rd_pickAnd (by decide)) ⟨rfl, rfl, fun hp => by first | (rw [hp]; rfl) | simp_all⟩ ?_
    refine G.step (rd_move (s := .b _) (by decide)) rfl ?_
    refine G.step (rd_guard (ts := []) (rd_move (s := .i _) (by decide)) rfl rfl rfl (by decide) (by decide)) ⟨rfl, trivial, fun hg => rfl⟩ ?_
    refine G.step (rd_guard (ts := []) (rd_move (s := .i _) (by decide)) rfl rfl rfl (by decide) (by decide)) ⟨rfl, trivial, fun hg => rfl⟩ ?_
    refine G.step (rd_guard (ts := [81, 82]) (rd_eql (k := .i64) (by decide)) rfl rfl rfl (by decide) (by decide)) ⟨rfl, ⟨fun h => by first | exact h | simp_all, fun h => by first | exact h | simp_all, trivial⟩, fun hg => ⟨rfl, rfl⟩⟩ ?_
    refine G.step (rd_pickAnd (by decide)) ⟨rfl, rfl, fun hp => by first | (rw [hp]; rfl) | simp_all⟩ ?_
    refine G.step (rd_move (s := .b _) (by decide)) rfl ?_
    refine G.step (rd_guard (ts := []) (rd_loadVS (cs := [.i _, .i _, .b _, .b _]) (by decide) ag26) rfl rfl rfl (by decide) (by decide)) ⟨rfl, trivial, fun hg => ⟨rfl, rfl, ⟨lb, rfl⟩, ⟨rfl, rfl, rfl, rfl, trivial⟩⟩⟩ ?_
    refine G.step (rd_guard (ts := []) (rd_loadVS (cs := [.i _, .i _, .b _, .b _]) (by decide) ag26) rfl rfl rfl (by decide) (by decide)) ⟨rfl, trivial, fun hg => ⟨rfl, rfl, ⟨lb, rfl⟩, ⟨rfl, rfl, rfl, rfl, trivial⟩⟩⟩ ?_
    refine G.step (rd_guard (ts := [86, 87]) (rd_eqlS (xs := [.int .i64 _, .int .i64 _, .bool _, .bool _]) (ys := [.int .i64 _, .int .i64 _, .bool _, .bool _]) (by decide) Try.eqGuardType26 (fun w => ef26 _ _ _ _ _ _ _ _ w)) rfl rfl rfl (by decide) (by decide)) ⟨rfl, ⟨fun h => by first | exact h | simp_all, fun h => by first | exact h | simp_all, trivial⟩, fun hg => ⟨rfl, rfl⟩⟩ ?_
    refine G.step (rd_pickAnd (by decide)) ⟨rfl, rfl, fun hp => by first | (rw [hp]; rfl) | simp_all⟩ ?_
    refine G.step (rd_move (s := .b _) (by decide)) rfl ?_
    refine G.step (rd_guard (ts := []) (rd_move (s := .i _) (by decide)) rfl rfl rfl (by decide) (by decide)) ⟨rfl, trivial, fun hg => rfl⟩ ?_
    refine G.step (rd_guard (ts := []) (rd_move (s := .i _) (by decide)) rfl rfl rfl (by decide) (by decide)) ⟨rfl, trivial, fun hg => rfl⟩ ?_
    refine G.step (rd_guard (ts := [91, 92]) (rd_eql (k := .i64) (by decide)) rfl rfl rfl (by decide) (by decide)) ⟨rfl, ⟨fun h => by first | exact h | simp_all, fun h => by first | exact h | simp_all, trivial⟩, fun hg => ⟨rfl, rfl⟩⟩ ?_
    refine G.step (rd_pickAnd (by decide)) ⟨rfl, rfl, fun hp => by first | (rw [hp]; rfl) | simp_all⟩ ?_
    refine G.step (rd_move (s := .b _) (by decide)) rfl ?_
    refine G.step (rd_guard (ts := []) (rd_loadVS (cs := [.i _, .i _, .b _, .b _]) (by decide) ag26) rfl rfl rfl (by decide) (by decide)) ⟨rfl, trivial, fun hg => ⟨rfl, rfl, ⟨lb, rfl⟩, ⟨rfl, rfl, rfl, rfl, trivial⟩⟩⟩ ?_
    refine G.step (rd_guard (ts := [96]) (rd_call (xs := [.tmp 96]) (by decide) (valid_ok ⟨_, _, _, _⟩)) rfl rfl rfl (by decide) (by decide)) ⟨rfl, ⟨fun h => by first | exact h | simp_all, trivial⟩, fun hg => ⟨⟨rfl, trivial⟩, rfl⟩⟩ ?_
    refine G.step (rd_guard (ts := []) (rd_loadVS (cs := [.i _, .i _, .b _, .b _]) (by decide) ag26) rfl rfl rfl (by decide) (by decide)) ⟨rfl, trivial, fun hg => ⟨rfl, rfl, ⟨lb, rfl⟩, ⟨rfl, rfl, rfl, rfl, trivial⟩⟩⟩ ?_
    refine G.step (rd_guard (ts := [98]) (rd_call (xs := [.tmp 98]) (by decide) (rvalid_ok ⟨_, _, _, _⟩)) rfl rfl rfl (by decide) (by decide)) ⟨rfl, ⟨fun h => by first | exact h | simp_all, trivial⟩, fun hg => ⟨⟨rfl, trivial⟩, rfl⟩⟩ ?_
    refine G.step (rd_guard (ts := [97, 99]) (rd_eqlB Try.underlying4 (by decide)) rfl rfl rfl (by decide) (by decide)) ⟨rfl, ⟨fun h => by first | exact h | simp_all, fun h => by first | exact h | simp_all, trivial⟩, fun hg => ⟨rfl, rfl⟩⟩ ?_
    refine G.step (rd_pickAnd (by decide)) ⟨rfl, rfl, fun hp => by first | (rw [hp]; rfl) | simp_all⟩ ?_
    refine G.step (rd_move (s := .b _) (by decide)) rfl ?_
    refine G.step (rd_guard (ts := []) (rd_loadVS (cs := [.i _, .i _, .b _, .b _]) (by decide) ag26) rfl rfl rfl (by decide) (by decide)) ⟨rfl, trivial, fun hg => ⟨rfl, rfl, ⟨lb, rfl⟩, ⟨rfl, rfl, rfl, rfl, trivial⟩⟩⟩ ?_
    refine G.step (rd_guard (ts := [103]) (rd_call (xs := [.tmp 103]) (by decide) (open_ok ⟨_, _, _, _⟩)) rfl rfl rfl (by decide) (by decide)) ⟨rfl, ⟨fun h => by first | exact h | simp_all, trivial⟩, fun hg => ⟨⟨rfl, trivial⟩, rfl⟩⟩ ?_
    refine G.step (rd_guard (ts := []) (rd_loadVS (cs := [.i _, .i _, .b _, .b _]) (by decide) ag26) rfl rfl rfl (by decide) (by decide)) ⟨rfl, trivial, fun hg => ⟨rfl, rfl, ⟨lb, rfl⟩, ⟨rfl, rfl, rfl, rfl, trivial⟩⟩⟩ ?_
    refine G.step (rd_guard (ts := [105]) (rd_call (xs := [.tmp 105]) (by decide) (ropen_ok ⟨_, _, _, _⟩)) rfl rfl rfl (by decide) (by decide)) ⟨rfl, ⟨fun h => by first | exact h | simp_all, trivial⟩, fun hg => ⟨⟨rfl, trivial⟩, rfl⟩⟩ ?_
    refine G.step (rd_guard (ts := [104, 106]) (rd_eqlB Try.underlying4 (by decide)) rfl rfl rfl (by decide) (by decide)) ⟨rfl, ⟨fun h => by first | exact h | simp_all, fun h => by first | exact h | simp_all, trivial⟩, fun hg => ⟨rfl, rfl⟩⟩ ?_
    refine G.step (rd_pickAnd (by decide)) ⟨rfl, rfl, fun hp => by first | (rw [hp]; rfl) | simp_all⟩ ?_
    refine G.step (rd_move (s := .b _) (by decide)) rfl ?_
    refine G.step (rd_guard (ts := []) (rd_loadVS (cs := [.i _, .i _, .b _, .b _]) (by decide) ag26) rfl rfl rfl (by decide) (by decide)) ⟨rfl, trivial, fun hg => ⟨rfl, rfl, ⟨lb, rfl⟩, ⟨rfl, rfl, rfl, rfl, trivial⟩⟩⟩ ?_
    refine G.step (rd_guard (ts := [110]) (rd_call (xs := [.tmp 110]) (by decide) (closed_ok ⟨_, _, _, _⟩)) rfl rfl rfl (by decide) (by decide)) ⟨rfl, ⟨fun h => by first | exact h | simp_all, trivial⟩, fun hg => ⟨⟨rfl, trivial⟩, rfl⟩⟩ ?_
    refine G.step (rd_guard (ts := []) (rd_loadVS (cs := [.i _, .i _, .b _, .b _]) (by decide) ag26) rfl rfl rfl (by decide) (by decide)) ⟨rfl, trivial, fun hg => ⟨rfl, rfl, ⟨lb, rfl⟩, ⟨rfl, rfl, rfl, rfl, trivial⟩⟩⟩ ?_
    refine G.step (rd_guard (ts := [112]) (rd_call (xs := [.tmp 112]) (by decide) (rclosed_ok ⟨_, _, _, _⟩)) rfl rfl rfl (by decide) (by decide)) ⟨rfl, ⟨fun h => by first | exact h | simp_all, trivial⟩, fun hg => ⟨⟨rfl, trivial⟩, rfl⟩⟩ ?_
    refine G.step (rd_guard (ts := [111, 113]) (rd_eqlB Try.underlying4 (by decide)) rfl rfl rfl (by decide) (by decide)) ⟨rfl, ⟨fun h => by first | exact h | simp_all, fun h => by first | exact h | simp_all, trivial⟩, fun hg => ⟨rfl, rfl⟩⟩ ?_
    refine G.step (rd_pickAnd (by decide)) ⟨rfl, rfl, fun hp => by first | (rw [hp]; rfl) | simp_all⟩ ?_
    refine G.step (rd_move (s := .b _) (by decide)) rfl ?_
    refine G.step (rd_guard (ts := []) (rd_loadVS (cs := [.i _, .i _, .b _, .b _]) (by decide) ag26) rfl rfl rfl (by decide) (by decide)) ⟨rfl, trivial, fun hg => ⟨rfl, rfl, ⟨lb, rfl⟩, ⟨rfl, rfl, rfl, rfl, trivial⟩⟩⟩ ?_
    refine G.step (rd_guard (ts := [117]) (rd_call (xs := [.tmp 117]) (by decide) (left_ok ⟨_, _, _, _⟩)) rfl rfl rfl (by decide) (by decide)) ⟨rfl, ⟨fun h => by first | exact h | simp_all, trivial⟩, fun hg => ⟨⟨rfl, trivial⟩, rfl⟩⟩ ?_
    refine G.step (rd_guard (ts := []) (rd_loadVS (cs := [.i _, .i _, .b _, .b _]) (by decide) ag26) rfl rfl rfl (by decide) (by decide)) ⟨rfl, trivial, fun hg => ⟨rfl, rfl, ⟨lb, rfl⟩, ⟨rfl, rfl, rfl, rfl, trivial⟩⟩⟩ ?_
    refine G.step (rd_guard (ts := [119]) (rd_call (xs := [.tmp 119]) (by decide) (rleft_ok ⟨_, _, _, _⟩)) rfl rfl rfl (by decide) (by decide)) ⟨rfl, ⟨fun h => by first | exact h | simp_all, trivial⟩, fun hg => ⟨⟨rfl, trivial⟩, rfl⟩⟩ ?_
    refine G.step (rd_guard (ts := [118, 120]) (rd_eql (k := .i64) (by decide)) rfl rfl rfl (by decide) (by decide)) ⟨rfl, ⟨fun h => by first | exact h | simp_all, fun h => by first | exact h | simp_all, trivial⟩, fun hg => ⟨rfl, rfl⟩⟩ ?_
    refine G.step (rd_pickAnd (by decide)) ⟨rfl, rfl, fun hp => by first | (rw [hp]; rfl) | simp_all⟩ ?_
    refine G.step (rd_move (s := .b _) (by decide)) rfl ?_
    refine G.step (rd_guard (ts := []) (rd_call (xs := []) (by decide) (awake_ok)) rfl rfl rfl (by decide) (by decide)) ⟨rfl, trivial, fun hg => ⟨trivial, rfl⟩⟩ ?_
    refine G.step (rd_pickAnd (by decide)) ⟨rfl, rfl, fun hp => by first | (rw [hp]; rfl) | simp_all⟩ ?_
    refine G.step (rd_assign (s := .b _) (by decide)) rfl ?_
    refine G.drawn (by kernel_rfl) ?_
    refine W.ret (RetQ.mk (ss := [.b _]) ⟨rfl, trivial⟩ ?_ rfl)
    simp [resOf]
  · (try simp only [Bool.and_eq_true, Bool.or_eq_true, Bool.not_eq_true', Bool.not_eq_false', Bool.and_eq_false_iff, Bool.or_eq_false_iff, decide_eq_true_eq, decide_eq_false_iff_not, beq_iff_eq, bne_iff_ne, Bool.not_true, Bool.not_false, Bool.not_not, beq_eq_false_iff_ne] at h0)
    refine W.skip ?_
    refine W.seq ?_
    refine W.region ?_
    refine G.step (rd_loadVS (cs := [.i _, .i _, .b _, .b _]) (by decide) ag26) ⟨rfl, rfl, ⟨lb, rfl⟩, ⟨rfl, rfl, rfl, rfl, trivial⟩⟩ ?_
    refine G.step (rd_move (s := .b _) (by decide)) rfl ?_
    refine G.step (rd_call (xs := [.tmp 34, .tmp 35]) (by decide) (command_ok ⟨_, _, _, _⟩ _)) ⟨⟨rfl, rfl, trivial⟩, rfl⟩ ?_
    refine G.step (rd_move (s := .tup [.agg [.i _, .i _, .b _, .b _], .i _]) (by decide)) rfl ?_
    refine G.step (rd_extract (s := .agg [.i _, .i _, .b _, .b _]) (by decide)) ⟨rfl, rfl⟩ ?_
    refine G.step (rd_extract (s := .i _) (by decide)) ⟨rfl, rfl⟩ ?_
    refine G.step (rd_alloc (b := 9) (cs := [.val (.int .i64 0), .val (.int .i64 0), .val (.bool false), .val (.bool false)]) (by decide) ze26 (⟨.inl ⟨rfl, rfl⟩, ⟨.inl ⟨rfl, rfl⟩, ⟨.inl ⟨rfl, rfl⟩, ⟨.inl ⟨rfl, rfl⟩, trivial⟩⟩⟩⟩)) rfl ?_
    refine G.step (rd_storeVS (cs := [.i _, .i _, .b _, .b _]) sz26) ⟨rfl, rfl, rfl, lb, rfl, rfl⟩ ?_
    refine G.step (rd_assign (s := .i _) (by decide)) rfl ?_
    refine G.done ?_
    refine W.seq ?_
    refine W.region ?_
    refine G.step (rd_loadVS (cs := [.i _, .i _, .b _, .b _]) (by decide) ag26) ⟨rfl, rfl, ⟨lb, rfl⟩, ⟨rfl, rfl, rfl, rfl, trivial⟩⟩ ?_
    refine G.step (rd_move (s := .b _) (by decide)) rfl ?_
    refine G.step (rd_call (xs := [.tmp 40, .tmp 41]) (by decide) (rcommand_ok ⟨_, _, _, _⟩ _)) ⟨⟨rfl, rfl, trivial⟩, rfl⟩ ?_
    refine G.step (rd_move (s := .tup [.agg [.i _, .i _, .b _, .b _], .i _]) (by decide)) rfl ?_
    refine G.step (rd_extract (s := .agg [.i _, .i _, .b _, .b _]) (by decide)) ⟨rfl, rfl⟩ ?_
    refine G.step (rd_extract (s := .i _) (by decide)) ⟨rfl, rfl⟩ ?_
    refine G.step (rd_alloc (b := 11) (cs := [.val (.int .i64 0), .val (.int .i64 0), .val (.bool false), .val (.bool false)]) (by decide) ze26 (⟨.inl ⟨rfl, rfl⟩, ⟨.inl ⟨rfl, rfl⟩, ⟨.inl ⟨rfl, rfl⟩, ⟨.inl ⟨rfl, rfl⟩, trivial⟩⟩⟩⟩)) rfl ?_
    refine G.step (rd_storeVS (cs := [.i _, .i _, .b _, .b _]) sz26) ⟨rfl, rfl, rfl, lb, rfl, rfl⟩ ?_
    refine G.step (rd_assign (s := .i _) (by decide)) rfl ?_
    refine G.done ?_
    refine W.seq ?_
    refine W.region ?_
    refine G.step (rd_loadVS (cs := [.i _, .i _, .b _, .b _]) (by decide) ag26) ⟨rfl, rfl, ⟨lb, rfl⟩, ⟨rfl, rfl, rfl, rfl, trivial⟩⟩ ?_
    refine G.step (rd_call (xs := [.tmp 46]) (by decide) (step_ok ⟨_, _, _, _⟩)) ⟨⟨rfl, trivial⟩, rfl⟩ ?_
    refine G.step (rd_move (s := .tup [.agg [.i _, .i _, .b _, .b _], .i _]) (by decide)) rfl ?_
    refine G.step (rd_extract (s := .agg [.i _, .i _, .b _, .b _]) (by decide)) ⟨rfl, rfl⟩ ?_
    refine G.step (rd_extract (s := .i _) (by decide)) ⟨rfl, rfl⟩ ?_
    refine G.step (rd_alloc (b := 13) (cs := [.val (.int .i64 0), .val (.int .i64 0), .val (.bool false), .val (.bool false)]) (by decide) ze26 (⟨.inl ⟨rfl, rfl⟩, ⟨.inl ⟨rfl, rfl⟩, ⟨.inl ⟨rfl, rfl⟩, ⟨.inl ⟨rfl, rfl⟩, trivial⟩⟩⟩⟩)) rfl ?_
    refine G.step (rd_storeVS (cs := [.i _, .i _, .b _, .b _]) sz26) ⟨rfl, rfl, rfl, lb, rfl, rfl⟩ ?_
    refine G.step (rd_assign (s := .i _) (by decide)) rfl ?_
    refine G.done ?_
    refine W.seq ?_
    refine W.region ?_
    refine G.step (rd_loadVS (cs := [.i _, .i _, .b _, .b _]) (by decide) ag26) ⟨rfl, rfl, ⟨lb, rfl⟩, ⟨rfl, rfl, rfl, rfl, trivial⟩⟩ ?_
    refine G.step (rd_call (xs := [.tmp 51]) (by decide) (rstep_ok ⟨_, _, _, _⟩)) ⟨⟨rfl, trivial⟩, rfl⟩ ?_
    refine G.step (rd_move (s := .tup [.agg [.i _, .i _, .b _, .b _], .i _]) (by decide)) rfl ?_
    refine G.step (rd_extract (s := .agg [.i _, .i _, .b _, .b _]) (by decide)) ⟨rfl, rfl⟩ ?_
    refine G.step (rd_extract (s := .i _) (by decide)) ⟨rfl, rfl⟩ ?_
    refine G.step (rd_alloc (b := 15) (cs := [.val (.int .i64 0), .val (.int .i64 0), .val (.bool false), .val (.bool false)]) (by decide) ze26 (⟨.inl ⟨rfl, rfl⟩, ⟨.inl ⟨rfl, rfl⟩, ⟨.inl ⟨rfl, rfl⟩, ⟨.inl ⟨rfl, rfl⟩, trivial⟩⟩⟩⟩)) rfl ?_
    refine G.step (rd_storeVS (cs := [.i _, .i _, .b _, .b _]) sz26) ⟨rfl, rfl, rfl, lb, rfl, rfl⟩ ?_
    refine G.step (rd_assign (s := .i _) (by decide)) rfl ?_
    refine G.done ?_
    refine W.prune (regs := [(2, .i _), (4, .ptr _ _), (8, .b _), (9, .ptr _ _), (10, .i _), (11, .ptr _ _), (12, .i _), (13, .ptr _ _), (14, .i _), (15, .ptr _ _), (16, .i _)]) (vars := [(4, _, [.i _, .i _, .b _, .b _]), (9, _, [.i _, .i _, .b _, .b _]), (11, _, [.i _, .i _, .b _, .b _]), (13, _, [.i _, .i _, .b _, .b _]), (15, _, [.i _, .i _, .b _, .b _])]) (arrs := []) ⟨⟨rfl, rfl⟩, ⟨rfl, rfl⟩, ⟨rfl, rfl⟩, ⟨rfl, rfl⟩, ⟨rfl, rfl⟩, ⟨rfl, rfl⟩, ⟨rfl, rfl⟩, ⟨rfl, rfl⟩, ⟨rfl, rfl⟩, ⟨rfl, rfl⟩, ⟨rfl, rfl⟩, trivial⟩ ⟨⟨_, rfl, rfl, ⟨⟨rfl, rfl⟩, ⟨rfl, rfl⟩, ⟨rfl, rfl⟩, ⟨rfl, rfl⟩, trivial⟩⟩, ⟨_, rfl, rfl, ⟨⟨rfl, rfl⟩, ⟨rfl, rfl⟩, ⟨rfl, rfl⟩, ⟨rfl, rfl⟩, trivial⟩⟩, ⟨_, rfl, rfl, ⟨⟨rfl, rfl⟩, ⟨rfl, rfl⟩, ⟨rfl, rfl⟩, ⟨rfl, rfl⟩, trivial⟩⟩, ⟨_, rfl, rfl, ⟨⟨rfl, rfl⟩, ⟨rfl, rfl⟩, ⟨rfl, rfl⟩, ⟨rfl, rfl⟩, trivial⟩⟩, ⟨_, rfl, rfl, ⟨⟨rfl, rfl⟩, ⟨rfl, rfl⟩, ⟨rfl, rfl⟩, ⟨rfl, rfl⟩, trivial⟩⟩, trivial⟩ trivial rfl PinOk.none ?_
    refine W.seq ?_
    refine W.region ?_
    refine G.step (rd_loadVS (cs := [.i _, .i _, .b _, .b _]) (by decide) ag26) ⟨rfl, rfl, ⟨lb, rfl⟩, ⟨rfl, rfl, rfl, rfl, trivial⟩⟩ ?_
    refine G.step (rd_move (s := .i _) (by decide)) rfl ?_
    refine G.step (rd_call (xs := [.tmp 56, .tmp 57]) (by decide) (pass_ok ⟨_, _, _, _⟩ _)) ⟨⟨rfl, rfl, trivial⟩, rfl⟩ ?_
    refine G.step (rd_move (s := .tup [.agg [.i _, .i _, .b _, .b _], .i _]) (by decide)) rfl ?_
    refine G.step (rd_extract (s := .agg [.i _, .i _, .b _, .b _]) (by decide)) ⟨rfl, rfl⟩ ?_
    refine G.step (rd_extract (s := .i _) (by decide)) ⟨rfl, rfl⟩ ?_
    refine G.step (rd_alloc (b := 17) (cs := [.val (.int .i64 0), .val (.int .i64 0), .val (.bool false), .val (.bool false)]) (by decide) ze26 (⟨.inl ⟨rfl, rfl⟩, ⟨.inl ⟨rfl, rfl⟩, ⟨.inl ⟨rfl, rfl⟩, ⟨.inl ⟨rfl, rfl⟩, trivial⟩⟩⟩⟩)) rfl ?_
    refine G.step (rd_storeVS (cs := [.i _, .i _, .b _, .b _]) sz26) ⟨rfl, rfl, rfl, lb, rfl, rfl⟩ ?_
    refine G.step (rd_assign (s := .i _) (by decide)) rfl ?_
    refine G.done ?_
    refine W.seq ?_
    refine W.region ?_
    refine G.step (rd_loadVS (cs := [.i _, .i _, .b _, .b _]) (by decide) ag26) ⟨rfl, rfl, ⟨lb, rfl⟩, ⟨rfl, rfl, rfl, rfl, trivial⟩⟩ ?_
    refine G.step (rd_move (s := .i _) (by decide)) rfl ?_
    refine G.step (rd_call (xs := [.tmp 62, .tmp 63]) (by decide) (rpass_ok ⟨_, _, _, _⟩ _)) ⟨⟨rfl, rfl, trivial⟩, rfl⟩ ?_
    refine G.step (rd_move (s := .tup [.agg [.i _, .i _, .b _, .b _], .i _]) (by decide)) rfl ?_
    refine G.step (rd_extract (s := .agg [.i _, .i _, .b _, .b _]) (by decide)) ⟨rfl, rfl⟩ ?_
    refine G.step (rd_extract (s := .i _) (by decide)) ⟨rfl, rfl⟩ ?_
    refine G.step (rd_alloc (b := 19) (cs := [.val (.int .i64 0), .val (.int .i64 0), .val (.bool false), .val (.bool false)]) (by decide) ze26 (⟨.inl ⟨rfl, rfl⟩, ⟨.inl ⟨rfl, rfl⟩, ⟨.inl ⟨rfl, rfl⟩, ⟨.inl ⟨rfl, rfl⟩, trivial⟩⟩⟩⟩)) rfl ?_
    refine G.step (rd_storeVS (cs := [.i _, .i _, .b _, .b _]) sz26) ⟨rfl, rfl, rfl, lb, rfl, rfl⟩ ?_
    refine G.step (rd_assign (s := .i _) (by decide)) rfl ?_
    refine G.done ?_
    refine W.seq ?_
    refine W.drawn mx ?_
    refine G.step (rd_loadVS (cs := [.i _, .i _, .b _, .b _]) (by decide) ag26) ⟨rfl, rfl, ⟨lb, rfl⟩, ⟨rfl, rfl, rfl, rfl, trivial⟩⟩ ?_
    refine G.step (rd_loadVS (cs := [.i _, .i _, .b _, .b _]) (by decide) ag26) ⟨rfl, rfl, ⟨lb, rfl⟩, ⟨rfl, rfl, rfl, rfl, trivial⟩⟩ ?_
    refine G.step (rd_eqlS (xs := [.int .i64 _, .int .i64 _, .bool _, .bool _]) (ys := [.int .i64 _, .int .i64 _, .bool _, .bool _]) (by decide) Try.eqGuardType26 (fun w => ef26 _ _ _ _ _ _ _ _ w)) ⟨rfl, rfl⟩ ?_
    refine G.step (rd_move (s := .b _) (by decide)) rfl ?_
    refine G.step (rd_guard (ts := []) (rd_move (s := .i _) (by decide)) rfl rfl rfl (by decide) (by decide)) ⟨rfl, trivial, fun hg => rfl⟩ ?_
    refine G.step (rd_guard (ts := []) (rd_move (s := .i _) (by decide)) rfl rfl rfl (by decide) (by decide)) ⟨rfl, trivial, fun hg => rfl⟩ ?_
    refine G.step (rd_guard (ts := [71, 72]) (rd_eql (k := .i64) (by decide)) rfl rfl rfl (by decide) (by decide)) ⟨rfl, ⟨fun h => by first | exact h | simp_all, fun h => by first | exact h | simp_all, trivial⟩, fun hg => ⟨rfl, rfl⟩⟩ ?_
    refine G.step (rd_pickAnd (by decide)) ⟨rfl, rfl, fun hp => by first | (rw [hp]; rfl) | simp_all⟩ ?_
    refine G.step (rd_move (s := .b _) (by decide)) rfl ?_
    refine G.step (rd_guard (ts := []) (rd_loadVS (cs := [.i _, .i _, .b _, .b _]) (by decide) ag26) rfl rfl rfl (by decide) (by decide)) ⟨rfl, trivial, fun hg => ⟨rfl, rfl, ⟨lb, rfl⟩, ⟨rfl, rfl, rfl, rfl, trivial⟩⟩⟩ ?_
    refine G.step (rd_guard (ts := []) (rd_loadVS (cs := [.i _, .i _, .b _, .b _]) (by decide) ag26) rfl rfl rfl (by decide) (by decide)) ⟨rfl, trivial, fun hg => ⟨rfl, rfl, ⟨lb, rfl⟩, ⟨rfl, rfl, rfl, rfl, trivial⟩⟩⟩ ?_
    refine G.step (rd_guard (ts := [76, 77]) (rd_eqlS (xs := [.int .i64 _, .int .i64 _, .bool _, .bool _]) (ys := [.int .i64 _, .int .i64 _, .bool _, .bool _]) (by decide) Try.eqGuardType26 (fun w => ef26 _ _ _ _ _ _ _ _ w)) rfl rfl rfl (by decide) (by decide)) ⟨rfl, ⟨fun h => by first | exact h | simp_all, fun h => by first | exact h | simp_all, trivial⟩, fun hg => ⟨rfl, rfl⟩⟩ ?_
    refine G.step (rd_pickAnd (by decide)) ⟨rfl, rfl, fun hp => by first | (rw [hp]; rfl) | simp_all⟩ ?_
    refine G.step (rd_move (s := .b _) (by decide)) rfl ?_
    refine G.step (rd_guard (ts := []) (rd_move (s := .i _) (by decide)) rfl rfl rfl (by decide) (by decide)) ⟨rfl, trivial, fun hg => rfl⟩ ?_
    refine G.step (rd_guard (ts := []) (rd_move (s := .i _) (by decide)) rfl rfl rfl (by decide) (by decide)) ⟨rfl, trivial, fun hg => rfl⟩ ?_
    refine G.step (rd_guard (ts := [81, 82]) (rd_eql (k := .i64) (by decide)) rfl rfl rfl (by decide) (by decide)) ⟨rfl, ⟨fun h => by first | exact h | simp_all, fun h => by first | exact h | simp_all, trivial⟩, fun hg => ⟨rfl, rfl⟩⟩ ?_
    refine G.step (rd_pickAnd (by decide)) ⟨rfl, rfl, fun hp => by first | (rw [hp]; rfl) | simp_all⟩ ?_
    refine G.step (rd_move (s := .b _) (by decide)) rfl ?_
    refine G.step (rd_guard (ts := []) (rd_loadVS (cs := [.i _, .i _, .b _, .b _]) (by decide) ag26) rfl rfl rfl (by decide) (by decide)) ⟨rfl, trivial, fun hg => ⟨rfl, rfl, ⟨lb, rfl⟩, ⟨rfl, rfl, rfl, rfl, trivial⟩⟩⟩ ?_
    refine G.step (rd_guard (ts := []) (rd_loadVS (cs := [.i _, .i _, .b _, .b _]) (by decide) ag26) rfl rfl rfl (by decide) (by decide)) ⟨rfl, trivial, fun hg => ⟨rfl, rfl, ⟨lb, rfl⟩, ⟨rfl, rfl, rfl, rfl, trivial⟩⟩⟩ ?_
    refine G.step (rd_guard (ts := [86, 87]) (rd_eqlS (xs := [.int .i64 _, .int .i64 _, .bool _, .bool _]) (ys := [.int .i64 _, .int .i64 _, .bool _, .bool _]) (by decide) Try.eqGuardType26 (fun w => ef26 _ _ _ _ _ _ _ _ w)) rfl rfl rfl (by decide) (by decide)) ⟨rfl, ⟨fun h => by first | exact h | simp_all, fun h => by first | exact h | simp_all, trivial⟩, fun hg => ⟨rfl, rfl⟩⟩ ?_
    refine G.step (rd_pickAnd (by decide)) ⟨rfl, rfl, fun hp => by first | (rw [hp]; rfl) | simp_all⟩ ?_
    refine G.step (rd_move (s := .b _) (by decide)) rfl ?_
    refine G.step (rd_guard (ts := []) (rd_move (s := .i _) (by decide)) rfl rfl rfl (by decide) (by decide)) ⟨rfl, trivial, fun hg => rfl⟩ ?_
    refine G.step (rd_guard (ts := []) (rd_move (s := .i _) (by decide)) rfl rfl rfl (by decide) (by decide)) ⟨rfl, trivial, fun hg => rfl⟩ ?_
    refine G.step (rd_guard (ts := [91, 92]) (rd_eql (k := .i64) (by decide)) rfl rfl rfl (by decide) (by decide)) ⟨rfl, ⟨fun h => by first | exact h | simp_all, fun h => by first | exact h | simp_all, trivial⟩, fun hg => ⟨rfl, rfl⟩⟩ ?_
    refine G.step (rd_pickAnd (by decide)) ⟨rfl, rfl, fun hp => by first | (rw [hp]; rfl) | simp_all⟩ ?_
    refine G.step (rd_move (s := .b _) (by decide)) rfl ?_
    refine G.step (rd_guard (ts := []) (rd_loadVS (cs := [.i _, .i _, .b _, .b _]) (by decide) ag26) rfl rfl rfl (by decide) (by decide)) ⟨rfl, trivial, fun hg => ⟨rfl, rfl, ⟨lb, rfl⟩, ⟨rfl, rfl, rfl, rfl, trivial⟩⟩⟩ ?_
    refine G.step (rd_guard (ts := [96]) (rd_call (xs := [.tmp 96]) (by decide) (valid_ok ⟨_, _, _, _⟩)) rfl rfl rfl (by decide) (by decide)) ⟨rfl, ⟨fun h => by first | exact h | simp_all, trivial⟩, fun hg => ⟨⟨rfl, trivial⟩, rfl⟩⟩ ?_
    refine G.step (rd_guard (ts := []) (rd_loadVS (cs := [.i _, .i _, .b _, .b _]) (by decide) ag26) rfl rfl rfl (by decide) (by decide)) ⟨rfl, trivial, fun hg => ⟨rfl, rfl, ⟨lb, rfl⟩, ⟨rfl, rfl, rfl, rfl, trivial⟩⟩⟩ ?_
    refine G.step (rd_guard (ts := [98]) (rd_call (xs := [.tmp 98]) (by decide) (rvalid_ok ⟨_, _, _, _⟩)) rfl rfl rfl (by decide) (by decide)) ⟨rfl, ⟨fun h => by first | exact h | simp_all, trivial⟩, fun hg => ⟨⟨rfl, trivial⟩, rfl⟩⟩ ?_
    refine G.step (rd_guard (ts := [97, 99]) (rd_eqlB Try.underlying4 (by decide)) rfl rfl rfl (by decide) (by decide)) ⟨rfl, ⟨fun h => by first | exact h | simp_all, fun h => by first | exact h | simp_all, trivial⟩, fun hg => ⟨rfl, rfl⟩⟩ ?_
    refine G.step (rd_pickAnd (by decide)) ⟨rfl, rfl, fun hp => by first | (rw [hp]; rfl) | simp_all⟩ ?_
    refine G.step (rd_move (s := .b _) (by decide)) rfl ?_
    refine G.step (rd_guard (ts := []) (rd_loadVS (cs := [.i _, .i _, .b _, .b _]) (by decide) ag26) rfl rfl rfl (by decide) (by decide)) ⟨rfl, trivial, fun hg => ⟨rfl, rfl, ⟨lb, rfl⟩, ⟨rfl, rfl, rfl, rfl, trivial⟩⟩⟩ ?_
    refine G.step (rd_guard (ts := [103]) (rd_call (xs := [.tmp 103]) (by decide) (open_ok ⟨_, _, _, _⟩)) rfl rfl rfl (by decide) (by decide)) ⟨rfl, ⟨fun h => by first | exact h | simp_all, trivial⟩, fun hg => ⟨⟨rfl, trivial⟩, rfl⟩⟩ ?_
    refine G.step (rd_guard (ts := []) (rd_loadVS (cs := [.i _, .i _, .b _, .b _]) (by decide) ag26) rfl rfl rfl (by decide) (by decide)) ⟨rfl, trivial, fun hg => ⟨rfl, rfl, ⟨lb, rfl⟩, ⟨rfl, rfl, rfl, rfl, trivial⟩⟩⟩ ?_
    refine G.step (rd_guard (ts := [105]) (rd_call (xs := [.tmp 105]) (by decide) (ropen_ok ⟨_, _, _, _⟩)) rfl rfl rfl (by decide) (by decide)) ⟨rfl, ⟨fun h => by first | exact h | simp_all, trivial⟩, fun hg => ⟨⟨rfl, trivial⟩, rfl⟩⟩ ?_
    refine G.step (rd_guard (ts := [104, 106]) (rd_eqlB Try.underlying4 (by decide)) rfl rfl rfl (by decide) (by decide)) ⟨rfl, ⟨fun h => by first | exact h | simp_all, fun h => by first | exact h | simp_all, trivial⟩, fun hg => ⟨rfl, rfl⟩⟩ ?_
    refine G.step (rd_pickAnd (by decide)) ⟨rfl, rfl, fun hp => by first | (rw [hp]; rfl) | simp_all⟩ ?_
    refine G.step (rd_move (s := .b _) (by decide)) rfl ?_
    refine G.step (rd_guard (ts := []) (rd_loadVS (cs := [.i _, .i _, .b _, .b _]) (by decide) ag26) rfl rfl rfl (by decide) (by decide)) ⟨rfl, trivial, fun hg => ⟨rfl, rfl, ⟨lb, rfl⟩, ⟨rfl, rfl, rfl, rfl, trivial⟩⟩⟩ ?_
    refine G.step (rd_guard (ts := [110]) (rd_call (xs := [.tmp 110]) (by decide) (closed_ok ⟨_, _, _, _⟩)) rfl rfl rfl (by decide) (by decide)) ⟨rfl, ⟨fun h => by first | exact h | simp_all, trivial⟩, fun hg => ⟨⟨rfl, trivial⟩, rfl⟩⟩ ?_
    refine G.step (rd_guard (ts := []) (rd_loadVS (cs := [.i _, .i _, .b _, .b _]) (by decide) ag26) rfl rfl rfl (by decide) (by decide)) ⟨rfl, trivial, fun hg => ⟨rfl, rfl, ⟨lb, rfl⟩, ⟨rfl, rfl, rfl, rfl, trivial⟩⟩⟩ ?_
    refine G.step (rd_guard (ts := [112]) (rd_call (xs := [.tmp 112]) (by decide) (rclosed_ok ⟨_, _, _, _⟩)) rfl rfl rfl (by decide) (by decide)) ⟨rfl, ⟨fun h => by first | exact h | simp_all, trivial⟩, fun hg => ⟨⟨rfl, trivial⟩, rfl⟩⟩ ?_
    refine G.step (rd_guard (ts := [111, 113]) (rd_eqlB Try.underlying4 (by decide)) rfl rfl rfl (by decide) (by decide)) ⟨rfl, ⟨fun h => by first | exact h | simp_all, fun h => by first | exact h | simp_all, trivial⟩, fun hg => ⟨rfl, rfl⟩⟩ ?_
    refine G.step (rd_pickAnd (by decide)) ⟨rfl, rfl, fun hp => by first | (rw [hp]; rfl) | simp_all⟩ ?_
    refine G.step (rd_move (s := .b _) (by decide)) rfl ?_
    refine G.step (rd_guard (ts := []) (rd_loadVS (cs := [.i _, .i _, .b _, .b _]) (by decide) ag26) rfl rfl rfl (by decide) (by decide)) ⟨rfl, trivial, fun hg => ⟨rfl, rfl, ⟨lb, rfl⟩, ⟨rfl, rfl, rfl, rfl, trivial⟩⟩⟩ ?_
    refine G.step (rd_guard (ts := [117]) (rd_call (xs := [.tmp 117]) (by decide) (left_ok ⟨_, _, _, _⟩)) rfl rfl rfl (by decide) (by decide)) ⟨rfl, ⟨fun h => by first | exact h | simp_all, trivial⟩, fun hg => ⟨⟨rfl, trivial⟩, rfl⟩⟩ ?_
    refine G.step (rd_guard (ts := []) (rd_loadVS (cs := [.i _, .i _, .b _, .b _]) (by decide) ag26) rfl rfl rfl (by decide) (by decide)) ⟨rfl, trivial, fun hg => ⟨rfl, rfl, ⟨lb, rfl⟩, ⟨rfl, rfl, rfl, rfl, trivial⟩⟩⟩ ?_
    refine G.step (rd_guard (ts := [119]) (rd_call (xs := [.tmp 119]) (by decide) (rleft_ok ⟨_, _, _, _⟩)) rfl rfl rfl (by decide) (by decide)) ⟨rfl, ⟨fun h => by first | exact h | simp_all, trivial⟩, fun hg => ⟨⟨rfl, trivial⟩, rfl⟩⟩ ?_
    refine G.step (rd_guard (ts := [118, 120]) (rd_eql (k := .i64) (by decide)) rfl rfl rfl (by decide) (by decide)) ⟨rfl, ⟨fun h => by first | exact h | simp_all, fun h => by first | exact h | simp_all, trivial⟩, fun hg => ⟨rfl, rfl⟩⟩ ?_
    refine G.step (rd_pickAnd (by decide)) ⟨rfl, rfl, fun hp => by first | (rw [hp]; rfl) | simp_all⟩ ?_
    refine G.step (rd_move (s := .b _) (by decide)) rfl ?_
    refine G.step (rd_guard (ts := []) (rd_call (xs := []) (by decide) (awake_ok)) rfl rfl rfl (by decide) (by decide)) ⟨rfl, trivial, fun hg => ⟨trivial, rfl⟩⟩ ?_
    refine G.step (rd_pickAnd (by decide)) ⟨rfl, rfl, fun hp => by first | (rw [hp]; rfl) | simp_all⟩ ?_
    refine G.step (rd_assign (s := .b _) (by decide)) rfl ?_
    refine G.drawn (by kernel_rfl) ?_
    refine W.ret (RetQ.mk (ss := [.b _]) ⟨rfl, trivial⟩ ?_ rfl)
    simp [resOf]

theorem valveBack_ok (t n : Int) (st : Bool) (ht : 0 ≤ t ∧ t < 256) (hn : 0 ≤ n ∧ n < 256) : FnC Try.prog 4 [.val (.int .u8 t), .val (.int .u8 n), .b st] (.b true) := by
  obtain ⟨q, hc1, hp1, hc2, hp2, hl1, hl2⟩ := back_law t n st ht hn
  refine FnC.intro 98 Try.func4 rfl nm4 rfl lb (fun w F => ?_)
  refine W.seq ?_
  refine W.region ?_
  refine G.step (rd_assign (s := .b _) (by decide)) rfl ?_
  refine G.done ?_
  refine W.seq ?_
  refine W.region ?_
  refine G.step (rd_move (s := .val (.int .u8 _)) (by decide)) rfl ?_
  refine G.step (rd_conv (by decide) Try.underlying5 Try.underlying3) ⟨rfl, wrap_i64 (by first | omega | (simp_all; done) | (simp_all; omega))⟩ ?_
  refine G.step (rd_remN (by decide)) ⟨rfl, rfl, (by first | omega | (simp_all; done) | (simp_all; omega))⟩ ?_
  refine G.step (rd_add (by decide)) ⟨rfl, rfl, (by first | omega | (simp_all; done) | (simp_all; omega))⟩ ?_
  refine G.step (rd_move (s := .b _) (by decide)) rfl ?_
  refine G.step (rd_build (zv := #[.int .i64 0, .int .i64 0, .bool false, .bool false]) (parts := [(0, .tmp 18), (3, .tmp 19)]) (ss := [.i _, .b _]) (zs := [.val (.int .i64 0), .val (.int .i64 0), .val (.bool false), .val (.bool false)]) (cs := [.i _, .i _, .b _, .b _]) (by decide) pl26 ze26 (⟨.inl ⟨rfl, rfl⟩, ⟨.inl ⟨rfl, rfl⟩, ⟨.inl ⟨rfl, rfl⟩, ⟨.inl ⟨rfl, rfl⟩, trivial⟩⟩⟩⟩)) ⟨⟨rfl, rfl, trivial⟩, rfl, rfl⟩ ?_
  refine G.step (rd_alloc (b := 7) (cs := [.val (.int .i64 0), .val (.int .i64 0), .val (.bool false), .val (.bool false)]) (by decide) ze26 (⟨.inl ⟨rfl, rfl⟩, ⟨.inl ⟨rfl, rfl⟩, ⟨.inl ⟨rfl, rfl⟩, ⟨.inl ⟨rfl, rfl⟩, trivial⟩⟩⟩⟩)) rfl ?_
  refine G.step (rd_storeVS (cs := [.i _, .i _, .b _, .b _]) sz26) ⟨rfl, rfl, rfl, lb, rfl, rfl⟩ ?_
  refine G.done ?_
  refine W.seq ?_
  refine W.region ?_
  refine G.step (rd_loadVS (cs := [.i _, .i _, .b _, .b _]) (by decide) ag26) ⟨rfl, rfl, ⟨lb, rfl⟩, ⟨rfl, rfl, rfl, rfl, trivial⟩⟩ ?_
  refine G.step (rd_call (xs := [.tmp 22, .const (.bool true)]) (by decide) ((command_ok ⟨_, _, _, _⟩ _).res (res' := .tup [(⟨1 + t % 60, 0, true, st⟩ : Valve).sv, .i 0]) (by rw [hc1]))) ⟨⟨rfl, rfl, trivial⟩, rfl⟩ ?_
  refine G.step (rd_move (s := .tup [.agg [.i _, .i _, .b _, .b _], .i _]) (by decide)) rfl ?_
  refine G.step (rd_extract (s := .agg [.i _, .i _, .b _, .b _]) (by decide)) ⟨rfl, rfl⟩ ?_
  refine G.step (rd_extract (s := .i _) (by decide)) ⟨rfl, rfl⟩ ?_
  refine G.step (rd_storeVS (cs := [.i _, .i _, .b _, .b _]) sz26) ⟨rfl, rfl, rfl, lb, rfl, rfl⟩ ?_
  refine G.step (rd_assign (s := .i _) (by decide)) rfl ?_
  refine G.done ?_
  refine W.seq ?_
  refine W.region ?_
  refine G.step (rd_move (s := .val (.int .u8 _)) (by decide)) rfl ?_
  refine G.step (rd_conv (by decide) Try.underlying5 Try.underlying3) ⟨rfl, wrap_i64 (by first | omega | (simp_all; done) | (simp_all; omega))⟩ ?_
  refine G.step (rd_fieldP (by decide) fl26_0) rfl ?_
  refine G.step (rd_loadV (s := .i _) (by decide) sc3) ⟨rfl, rfl, lb, rfl⟩ ?_
  refine G.step (rd_add (by decide)) ⟨rfl, rfl, (by first | omega | (simp_all; done) | (simp_all; omega))⟩ ?_
  refine G.step (rd_remN (by decide)) ⟨rfl, rfl, (by first | omega | (simp_all; done) | (simp_all; omega))⟩ ?_
  refine G.step (rd_assign (s := .i _) (by decide)) rfl ?_
  refine G.done ?_
  refine W.seq ?_
  refine W.region ?_
  refine G.step (rd_loadVS (cs := [.i _, .i _, .b _, .b _]) (by decide) ag26) ⟨rfl, rfl, ⟨lb, rfl⟩, ⟨rfl, rfl, rfl, rfl, trivial⟩⟩ ?_
  refine G.step (rd_move (s := .i _) (by decide)) rfl ?_
  refine G.step (rd_call (xs := [.tmp 33, .tmp 34]) (by decide) ((pass_ok ⟨_, _, _, _⟩ _).res (res' := .tup [(⟨1 + t % 60, q, true, st⟩ : Valve).sv, .i 0]) (by rw [hp1]))) ⟨⟨rfl, rfl, trivial⟩, rfl⟩ ?_
  refine G.step (rd_move (s := .tup [.agg [.i _, .i _, .b _, .b _], .i _]) (by decide)) rfl ?_
  refine G.step (rd_extract (s := .agg [.i _, .i _, .b _, .b _]) (by decide)) ⟨rfl, rfl⟩ ?_
  refine G.step (rd_extract (s := .i _) (by decide)) ⟨rfl, rfl⟩ ?_
  refine G.step (rd_alloc (b := 10) (cs := [.val (.int .i64 0), .val (.int .i64 0), .val (.bool false), .val (.bool false)]) (by decide) ze26 (⟨.inl ⟨rfl, rfl⟩, ⟨.inl ⟨rfl, rfl⟩, ⟨.inl ⟨rfl, rfl⟩, ⟨.inl ⟨rfl, rfl⟩, trivial⟩⟩⟩⟩)) rfl ?_
  refine G.step (rd_storeVS (cs := [.i _, .i _, .b _, .b _]) sz26) ⟨rfl, rfl, rfl, lb, rfl, rfl⟩ ?_
  refine G.step (rd_assign (s := .i _) (by decide)) rfl ?_
  refine G.done ?_
  refine W.prune (regs := [(2, .b _), (6, .b _), (7, .ptr _ _), (8, .i _), (9, .i _), (10, .ptr _ _), (11, .i _)]) (vars := [(7, _, [.i _, .i _, .b _, .b _]), (10, _, [.i _, .i _, .b _, .b _])]) (arrs := []) ⟨⟨rfl, rfl⟩, ⟨rfl, rfl⟩, ⟨rfl, rfl⟩, ⟨rfl, rfl⟩, ⟨rfl, rfl⟩, ⟨rfl, rfl⟩, ⟨rfl, rfl⟩, trivial⟩ ⟨⟨_, rfl, rfl, ⟨⟨rfl, rfl⟩, ⟨rfl, rfl⟩, ⟨rfl, rfl⟩, ⟨rfl, rfl⟩, trivial⟩⟩, ⟨_, rfl, rfl, ⟨⟨rfl, rfl⟩, ⟨rfl, rfl⟩, ⟨rfl, rfl⟩, ⟨rfl, rfl⟩, trivial⟩⟩, trivial⟩ trivial rfl PinOk.none ?_
  refine W.seq ?_
  refine W.region ?_
  refine G.step (rd_loadVS (cs := [.i _, .i _, .b _, .b _]) (by decide) ag26) ⟨rfl, rfl, ⟨lb, rfl⟩, ⟨rfl, rfl, rfl, rfl, trivial⟩⟩ ?_
  refine G.step (rd_call (xs := [.tmp 39, .const (.bool false)]) (by decide) ((command_ok ⟨_, _, _, _⟩ _).res (res' := .tup [(⟨1 + t % 60, q, false, st⟩ : Valve).sv, .i 0]) (by rw [hc2]))) ⟨⟨rfl, rfl, trivial⟩, rfl⟩ ?_
  refine G.step (rd_move (s := .tup [.agg [.i _, .i _, .b _, .b _], .i _]) (by decide)) rfl ?_
  refine G.step (rd_extract (s := .agg [.i _, .i _, .b _, .b _]) (by decide)) ⟨rfl, rfl⟩ ?_
  refine G.step (rd_extract (s := .i _) (by decide)) ⟨rfl, rfl⟩ ?_
  refine G.step (rd_storeVS (cs := [.i _, .i _, .b _, .b _]) sz26) ⟨rfl, rfl, rfl, lb, rfl, rfl⟩ ?_
  refine G.step (rd_assign (s := .i _) (by decide)) rfl ?_
  refine G.done ?_
  refine W.seq ?_
  refine W.region ?_
  refine G.step (rd_loadVS (cs := [.i _, .i _, .b _, .b _]) (by decide) ag26) ⟨rfl, rfl, ⟨lb, rfl⟩, ⟨rfl, rfl, rfl, rfl, trivial⟩⟩ ?_
  refine G.step (rd_move (s := .i _) (by decide)) rfl ?_
  refine G.step (rd_call (xs := [.tmp 44, .tmp 45]) (by decide) ((pass_ok ⟨_, _, _, _⟩ _).res (res' := .tup [(⟨1 + t % 60, 0, false, st⟩ : Valve).sv, .i 0]) (by rw [hp2]))) ⟨⟨rfl, rfl, trivial⟩, rfl⟩ ?_
  refine G.step (rd_move (s := .tup [.agg [.i _, .i _, .b _, .b _], .i _]) (by decide)) rfl ?_
  refine G.step (rd_extract (s := .agg [.i _, .i _, .b _, .b _]) (by decide)) ⟨rfl, rfl⟩ ?_
  refine G.step (rd_extract (s := .i _) (by decide)) ⟨rfl, rfl⟩ ?_
  refine G.step (rd_alloc (b := 13) (cs := [.val (.int .i64 0), .val (.int .i64 0), .val (.bool false), .val (.bool false)]) (by decide) ze26 (⟨.inl ⟨rfl, rfl⟩, ⟨.inl ⟨rfl, rfl⟩, ⟨.inl ⟨rfl, rfl⟩, ⟨.inl ⟨rfl, rfl⟩, trivial⟩⟩⟩⟩)) rfl ?_
  refine G.step (rd_storeVS (cs := [.i _, .i _, .b _, .b _]) sz26) ⟨rfl, rfl, rfl, lb, rfl, rfl⟩ ?_
  refine G.step (rd_assign (s := .i _) (by decide)) rfl ?_
  refine G.done ?_
  refine W.seq ?_
  refine W.seq ?_
  refine W.region ?_
  refine G.step (rd_move (s := .i _) (by decide)) rfl ?_
  refine G.step (rd_neq (k := .i64) (by decide)) ⟨rfl, rfl⟩ ?_
  refine G.step (rd_move (s := .b _) (by decide)) rfl ?_
  refine G.step (rd_guard (ts := []) (rd_move (s := .i _) (by decide)) rfl rfl rfl (by decide) (by decide)) ⟨rfl, trivial, fun hg => rfl⟩ ?_
  refine G.step (rd_guard (ts := [52]) (rd_neq (k := .i64) (by decide)) rfl rfl rfl (by decide) (by decide)) ⟨rfl, ⟨fun h => by first | exact h | simp_all, trivial⟩, fun hg => ⟨rfl, rfl⟩⟩ ?_
  refine G.step (rd_pickOr (by decide)) ⟨rfl, rfl, fun hp => by first | (rw [hp]; rfl) | simp_all⟩ ?_
  refine G.step (rd_move (s := .b _) (by decide)) rfl ?_
  refine G.step (rd_guard (ts := []) (rd_move (s := .i _) (by decide)) rfl rfl rfl (by decide) (by decide)) ⟨rfl, trivial, fun hg => rfl⟩ ?_
  refine G.step (rd_guard (ts := [56]) (rd_neq (k := .i64) (by decide)) rfl rfl rfl (by decide) (by decide)) ⟨rfl, ⟨fun h => by first | exact h | simp_all, trivial⟩, fun hg => ⟨rfl, rfl⟩⟩ ?_
  refine G.step (rd_pickOr (by decide)) ⟨rfl, rfl, fun hp => by first | (rw [hp]; rfl) | simp_all⟩ ?_
  refine G.step (rd_move (s := .b _) (by decide)) rfl ?_
  refine G.step (rd_guard (ts := []) (rd_move (s := .i _) (by decide)) rfl rfl rfl (by decide) (by decide)) ⟨rfl, trivial, fun hg => rfl⟩ ?_
  refine G.step (rd_guard (ts := [60]) (rd_neq (k := .i64) (by decide)) rfl rfl rfl (by decide) (by decide)) ⟨rfl, ⟨fun h => by first | exact h | simp_all, trivial⟩, fun hg => ⟨rfl, rfl⟩⟩ ?_
  refine G.step (rd_pickOr (by decide)) ⟨rfl, rfl, fun hp => by first | (rw [hp]; rfl) | simp_all⟩ ?_
  refine G.step (rd_move (s := .b _) (by decide)) rfl ?_
  refine G.step (rd_guard (ts := []) (rd_fieldP (by decide) fl26_1) rfl rfl rfl (by decide) (by decide)) ⟨rfl, trivial, fun hg => rfl⟩ ?_
  refine G.step (rd_guard (ts := [64]) (rd_loadV (s := .i _) (by decide) sc3) rfl rfl rfl (by decide) (by decide)) ⟨rfl, ⟨fun h => by first | exact h | simp_all, trivial⟩, fun hg => ⟨rfl, rfl, lb, rfl⟩⟩ ?_
  refine G.step (rd_guard (ts := [65]) (rd_neq (k := .i64) (by decide)) rfl rfl rfl (by decide) (by decide)) ⟨rfl, ⟨fun h => by first | exact h | simp_all, trivial⟩, fun hg => ⟨rfl, rfl⟩⟩ ?_
  refine G.step (rd_pickOr (by decide)) ⟨rfl, rfl, fun hp => by first | (rw [hp]; rfl) | simp_all⟩ ?_
  refine G.done ?_
  refine W.prune (regs := [(2, .b _), (6, .b _), (7, .ptr _ _), (9, .i _), (10, .ptr _ _), (67, .b _)]) (vars := [(7, _, [.i _, .i _, .b _, .b _]), (10, _, [.i _, .i _, .b _, .b _])]) (arrs := []) ⟨⟨rfl, rfl⟩, ⟨rfl, rfl⟩, ⟨rfl, rfl⟩, ⟨rfl, rfl⟩, ⟨rfl, rfl⟩, ⟨rfl, rfl⟩, trivial⟩ ⟨⟨_, rfl, rfl, ⟨⟨rfl, rfl⟩, ⟨rfl, rfl⟩, ⟨rfl, rfl⟩, ⟨rfl, rfl⟩, trivial⟩⟩, ⟨_, rfl, rfl, ⟨⟨rfl, rfl⟩, ⟨rfl, rfl⟩, ⟨rfl, rfl⟩, ⟨rfl, rfl⟩, trivial⟩⟩, trivial⟩ trivial rfl PinOk.none ?_
  refine W.cond (t := _) rfl (fun h0 => ?_) (fun h0 => ?_)
  · (try simp only [Bool.and_eq_true, Bool.or_eq_true, Bool.not_eq_true', Bool.not_eq_false', Bool.and_eq_false_iff, Bool.or_eq_false_iff, decide_eq_true_eq, decide_eq_false_iff_not, beq_iff_eq, bne_iff_ne, Bool.not_true, Bool.not_false, Bool.not_not, beq_eq_false_iff_ne] at h0)
    exfalso; simp_all
  · (try simp only [Bool.and_eq_true, Bool.or_eq_true, Bool.not_eq_true', Bool.not_eq_false', Bool.and_eq_false_iff, Bool.or_eq_false_iff, decide_eq_true_eq, decide_eq_false_iff_not, beq_iff_eq, bne_iff_ne, Bool.not_true, Bool.not_false, Bool.not_not, beq_eq_false_iff_ne] at h0)
    refine W.skip ?_
    refine W.seq ?_
    refine W.region ?_
    refine G.step (rd_move (s := .b _) (by decide)) rfl ?_
    refine G.step (rd_move (s := .b _) (by decide)) rfl ?_
    refine G.step (rd_guard (ts := []) (rd_fieldP (by decide) fl26_1) rfl rfl rfl (by decide) (by decide)) ⟨rfl, trivial, fun hg => rfl⟩ ?_
    refine G.step (rd_guard (ts := [70]) (rd_loadV (s := .i _) (by decide) sc3) rfl rfl rfl (by decide) (by decide)) ⟨rfl, ⟨fun h => by first | exact h | simp_all, trivial⟩, fun hg => ⟨rfl, rfl, lb, rfl⟩⟩ ?_
    refine G.step (rd_guard (ts := [71]) (rd_eql (k := .i64) (by decide)) rfl rfl rfl (by decide) (by decide)) ⟨rfl, ⟨fun h => by first | exact h | simp_all, trivial⟩, fun hg => ⟨rfl, rfl⟩⟩ ?_
    refine G.step (rd_pickAnd (by decide)) ⟨rfl, rfl, fun hp => by first | (rw [hp]; rfl) | simp_all⟩ ?_
    refine G.step (rd_move (s := .b _) (by decide)) rfl ?_
    refine G.step (rd_guard (ts := []) (rd_loadVS (cs := [.i _, .i _, .b _, .b _]) (by decide) ag26) rfl rfl rfl (by decide) (by decide)) ⟨rfl, trivial, fun hg => ⟨rfl, rfl, ⟨lb, rfl⟩, ⟨rfl, rfl, rfl, rfl, trivial⟩⟩⟩ ?_
    refine G.step (rd_guard (ts := [75]) (rd_call (xs := [.tmp 75]) (by decide) (left_ok ⟨_, _, _, _⟩)) rfl rfl rfl (by decide) (by decide)) ⟨rfl, ⟨fun h => by first | exact h | simp_all, trivial⟩, fun hg => ⟨⟨rfl, trivial⟩, rfl⟩⟩ ?_
    refine G.step (rd_guard (ts := [76]) (rd_eql (k := .i64) (by decide)) rfl rfl rfl (by decide) (by decide)) ⟨rfl, ⟨fun h => by first | exact h | simp_all, trivial⟩, fun hg => ⟨rfl, rfl⟩⟩ ?_
    refine G.step (rd_pickAnd (by decide)) ⟨rfl, rfl, fun hp => by first | (rw [hp]; rfl) | simp_all⟩ ?_
    refine G.step (rd_move (s := .b _) (by decide)) rfl ?_
    refine G.step (rd_guard (ts := []) (rd_move (s := .b _) (by decide)) rfl rfl rfl (by decide) (by decide)) ⟨rfl, trivial, fun hg => rfl⟩ ?_
    refine G.step (rd_guard (ts := [80]) (rd_not (by decide)) rfl rfl rfl (by decide) (by decide)) ⟨rfl, ⟨fun h => by first | exact h | simp_all, trivial⟩, fun hg => rfl⟩ ?_
    refine G.step (rd_guard (ts := [81]) (rd_move (s := .b _) (by decide)) rfl rfl rfl (by decide) (by decide)) ⟨rfl, ⟨fun h => by first | exact h | simp_all, trivial⟩, fun hg => rfl⟩ ?_
    refine G.step (rd_guardW (ts := []) (rd_fieldP (by decide) fl26_1) rfl rfl rfl (by decide) (by decide)) ⟨rfl, trivial, fun hg => rfl⟩ ?_
    refine G.step (rd_guardW (ts := [83]) (rd_loadV (s := .i _) (by decide) sc3) rfl rfl rfl (by decide) (by decide)) ⟨rfl, ⟨fun h => by first | exact h | simp_all, trivial⟩, fun hg => ⟨rfl, rfl, lb, rfl⟩⟩ ?_
    refine G.step (rd_guardW (ts := []) (rd_move (s := .i _) (by decide)) rfl rfl rfl (by decide) (by decide)) ⟨rfl, trivial, fun hg => rfl⟩ ?_
    refine G.step (rd_guardW (ts := [84, 85]) (rd_eql (k := .i64) (by decide)) rfl rfl rfl (by decide) (by decide)) ⟨rfl, ⟨fun h => by first | exact h | simp_all, fun h => by first | exact h | simp_all, trivial⟩, fun hg => ⟨rfl, rfl⟩⟩ ?_
    refine G.step (rd_guard (ts := [82]) (rd_pickAnd (by decide)) rfl rfl rfl (by decide) (by decide)) ⟨rfl, ⟨fun h => by first | exact h | simp_all, trivial⟩, fun hg => ⟨rfl, rfl, fun hp => by first | (rw [hp]; rfl) | simp_all⟩⟩ ?_
    refine G.step (rd_guard (ts := [87]) (rd_move (s := .b _) (by decide)) rfl rfl rfl (by decide) (by decide)) ⟨rfl, ⟨fun h => by first | exact h | simp_all, trivial⟩, fun hg => rfl⟩ ?_
    refine G.step (rd_guardW (ts := []) (rd_loadVS (cs := [.i _, .i _, .b _, .b _]) (by decide) ag26) rfl rfl rfl (by decide) (by decide)) ⟨rfl, trivial, fun hg => ⟨rfl, rfl, ⟨lb, rfl⟩, ⟨rfl, rfl, rfl, rfl, trivial⟩⟩⟩ ?_
    refine G.step (rd_guardW (ts := [89]) (rd_call (xs := [.tmp 89]) (by decide) (left_ok ⟨_, _, _, _⟩)) rfl rfl rfl (by decide) (by decide)) ⟨rfl, ⟨fun h => by first | exact h | simp_all, trivial⟩, fun hg => ⟨⟨rfl, trivial⟩, rfl⟩⟩ ?_
    refine G.step (rd_guardW (ts := []) (rd_move (s := .i _) (by decide)) rfl rfl rfl (by decide) (by decide)) ⟨rfl, trivial, fun hg => rfl⟩ ?_
    refine G.step (rd_guardW (ts := [90, 91]) (rd_eql (k := .i64) (by decide)) rfl rfl rfl (by decide) (by decide)) ⟨rfl, ⟨fun h => by first | exact h | simp_all, fun h => by first | exact h | simp_all, trivial⟩, fun hg => ⟨rfl, rfl⟩⟩ ?_
    refine G.step (rd_guard (ts := [88]) (rd_pickAnd (by decide)) rfl rfl rfl (by decide) (by decide)) ⟨rfl, ⟨fun h => by first | exact h | simp_all, trivial⟩, fun hg => ⟨rfl, rfl, fun hp => by first | (rw [hp]; rfl) | simp_all⟩⟩ ?_
    refine G.step (rd_pickOr (by decide)) ⟨rfl, rfl, fun hp => by first | (rw [hp]; rfl) | simp_all⟩ ?_
    refine G.step (rd_move (s := .b _) (by decide)) rfl ?_
    refine G.step (rd_guard (ts := []) (rd_call (xs := []) (by decide) (awake_ok)) rfl rfl rfl (by decide) (by decide)) ⟨rfl, trivial, fun hg => ⟨trivial, rfl⟩⟩ ?_
    refine G.step (rd_pickAnd (by decide)) ⟨rfl, rfl, fun hp => by first | (rw [hp]; rfl) | simp_all⟩ ?_
    refine G.step (rd_assign (s := .b _) (by decide)) rfl ?_
    refine G.done ?_
    refine W.ret (RetQ.mk (ss := [.b _]) ⟨rfl, trivial⟩ ?_ rfl)
    (rcases hl1 with h | h <;> (dsimp only [resOf]; rw [h]; simp))

theorem svalve_ok (s : Src) (hs : s.ok) : FnV Try.prog 7 [] 41 [ints s.l, .i s.p] ((valveOf s).1.sv) [ints (valveOf s).2.l, .i (valveOf s).2.p] := by
  have h5 := pick5_bd s
  refine FnV.intro 1000 26 Try.func7 rfl nm7 rfl lb (fun w F gb => ?_)
  refine W.seq ?_
  refine W.region ?_
  refine G.step (rd_alloc (b := 2) (cs := [.val (.int .i64 0), .val (.int .i64 0), .val (.bool false), .val (.bool false)]) (by decide) ze26 (⟨.inl ⟨rfl, rfl⟩, ⟨.inl ⟨rfl, rfl⟩, ⟨.inl ⟨rfl, rfl⟩, ⟨.inl ⟨rfl, rfl⟩, trivial⟩⟩⟩⟩)) rfl ?_
  refine G.done ?_
  refine W.seq ?_
  refine W.region ?_
  refine G.step (rd_move (s := .ptr _ _) (by decide)) rfl ?_
  refine G.step (rd_buildSliceL (cell := cellI) (d0 := 0) (l := [_, _, _, _, _]) (zv := (.int .i64 0)) (xs := [.const (.int .i64 1), .const (.int .i64 2), .const (.int .i64 3), .const (.int .i64 6), .const (.int .i64 60)]) (ss := [.i _, .i _, .i _, .i _, .i _]) (by decide) el22 ze3 rfl (by decide) rfl rfl) ⟨⟨rfl, rfl, rfl, rfl, rfl, trivial⟩, ⟨⟨rfl, trivial⟩, ⟨rfl, trivial⟩, ⟨rfl, trivial⟩, ⟨rfl, trivial⟩, ⟨rfl, trivial⟩, trivial⟩, rfl, rfl, rfl⟩ ?_
  refine G.step (rd_callV (xs := [.tmp 5]) (by decide) (pick_ok _ _ (by repeat (first | exact hs | apply raw_ok' | apply nn_ok' | apply pick_ok')) (by simp) (by simp)) rfl rfl) ⟨rfl, rfl, ⟨rfl, rfl, trivial⟩, ⟨rfl, trivial⟩, rfl, rfl⟩ ?_
  refine G.step (rd_move (s := .ptr _ _) (by decide)) rfl ?_
  refine G.step (rd_callV (xs := [.const (.int .i64 2)]) (by decide) (n_ok _ _ (by repeat (first | exact hs | apply raw_ok' | apply nn_ok' | apply pick_ok')) (by omega)) rfl rfl) ⟨rfl, rfl, ⟨rfl, rfl, trivial⟩, ⟨rfl, trivial⟩, rfl, rfl⟩ ?_
  refine G.step (rd_eql (k := .i64) (by decide)) ⟨rfl, rfl⟩ ?_
  refine G.step (rd_move (s := .ptr _ _) (by decide)) rfl ?_
  refine G.step (rd_callV (xs := [.const (.int .i64 8)]) (by decide) (n_ok _ _ (by repeat (first | exact hs | apply raw_ok' | apply nn_ok' | apply pick_ok')) (by omega)) rfl rfl) ⟨rfl, rfl, ⟨rfl, rfl, trivial⟩, ⟨rfl, trivial⟩, rfl, rfl⟩ ?_
  refine G.step (rd_eql (k := .i64) (by decide)) ⟨rfl, rfl⟩ ?_
  refine G.step (rd_build (zv := #[.int .i64 0, .int .i64 0, .bool false, .bool false]) (parts := [(0, .tmp 6), (2, .tmp 9), (3, .tmp 12)]) (ss := [.i _, .b _, .b _]) (zs := [.val (.int .i64 0), .val (.int .i64 0), .val (.bool false), .val (.bool false)]) (cs := [.i _, .i _, .b _, .b _]) (by decide) pl26 ze26 (⟨.inl ⟨rfl, rfl⟩, ⟨.inl ⟨rfl, rfl⟩, ⟨.inl ⟨rfl, rfl⟩, ⟨.inl ⟨rfl, rfl⟩, trivial⟩⟩⟩⟩)) ⟨⟨rfl, rfl, rfl, trivial⟩, rfl, rfl⟩ ?_
  refine G.step (rd_alloc (b := 3) (cs := [.val (.int .i64 0), .val (.int .i64 0), .val (.bool false), .val (.bool false)]) (by decide) ze26 (⟨.inl ⟨rfl, rfl⟩, ⟨.inl ⟨rfl, rfl⟩, ⟨.inl ⟨rfl, rfl⟩, ⟨.inl ⟨rfl, rfl⟩, trivial⟩⟩⟩⟩)) rfl ?_
  refine G.step (rd_storeVS (cs := [.i _, .i _, .b _, .b _]) sz26) ⟨rfl, rfl, rfl, lb, rfl, rfl⟩ ?_
  refine G.done ?_
  refine W.seq ?_
  refine W.drawn mx ?_
  refine G.step (rd_move (s := .ptr _ _) (by decide)) rfl ?_
  refine G.step (rd_fieldP (by decide) fl26_0) rfl ?_
  refine G.step (rd_loadV (s := .i _) (by decide) sc3) ⟨rfl, rfl, lb, rfl⟩ ?_
  refine G.step (rd_move (s := .ptr _ _) (by decide)) rfl ?_
  refine G.step (rd_fieldP (by decide) fl26_0) rfl ?_
  refine G.step (rd_loadV (s := .i _) (by decide) sc3) ⟨rfl, rfl, lb, rfl⟩ ?_
  refine G.step (rd_add (by decide)) ⟨rfl, rfl, (by first | omega | (simp_all; done) | (simp_all; omega))⟩ ?_
  refine G.step (rd_callV (xs := [.tmp 20]) (by decide) (n_ok _ _ (by repeat (first | exact hs | apply raw_ok' | apply nn_ok' | apply pick_ok')) (by omega)) rfl rfl) ⟨rfl, rfl, ⟨rfl, rfl, trivial⟩, ⟨rfl, trivial⟩, rfl, rfl⟩ ?_
  refine G.step (rd_buildSliceL (cell := cellI) (d0 := 0) (l := [_, _, _]) (zv := (.int .i64 0)) (xs := [.const (.int .i64 0), .tmp 16, .tmp 21]) (ss := [.i _, .i _, .i _]) (by decide) el22 ze3 rfl (by decide) rfl rfl) ⟨⟨rfl, rfl, rfl, trivial⟩, ⟨⟨rfl, trivial⟩, ⟨rfl, trivial⟩, ⟨rfl, trivial⟩, trivial⟩, rfl, rfl, rfl⟩ ?_
  refine G.step (rd_callV (xs := [.tmp 22]) (by decide) (pick_ok _ _ (by repeat (first | exact hs | apply raw_ok' | apply nn_ok' | apply pick_ok')) (by simp) (by simp)) rfl rfl) ⟨rfl, rfl, ⟨rfl, rfl, trivial⟩, ⟨rfl, trivial⟩, rfl, rfl⟩ ?_
  refine G.step (rd_fieldP (by decide) fl26_1) rfl ?_
  refine G.step (rd_storeV (s := .i _) sz3) ⟨rfl, rfl, rfl, lb, rfl⟩ ?_
  refine G.drawn (by kernel_rfl) ?_
  refine W.seq ?_
  refine W.region ?_
  refine G.step (rd_loadVS (cs := [.i _, .i _, .b _, .b _]) (by decide) ag26) ⟨rfl, rfl, ⟨lb, rfl⟩, ⟨rfl, rfl, rfl, rfl, trivial⟩⟩ ?_
  refine G.step (rd_storeVS (cs := [.i _, .i _, .b _, .b _]) sz26) ⟨rfl, rfl, rfl, lb, rfl, rfl⟩ ?_
  refine G.done ?_
  refine W.ret (RetQV.mk (ss := [.agg [.i _, .i _, .b _, .b _]]) (cs'' := [slOf _ _ _ _, .i _]) ⟨⟨_, _, _, _, [.i _, .i _, .b _, .b _], rfl, rfl, ag26, lb, ⟨rfl, rfl, rfl, rfl, trivial⟩, rfl⟩, trivial⟩ rfl rfl ⟨rfl, rfl, trivial⟩ ?_ ?_ rfl rfl)
  all_goals (rfl)

theorem valveArrives_ok (l : List Int) (hl : ∀ x ∈ l, small x) : FnC Try.prog 3 [ints l] (.b true) := by
  have hs : Src.ok ⟨l.take 2000, 0⟩ := ⟨by simp; omega, by simp, fun x hx => hl x (List.mem_of_mem_take hx)⟩
  obtain ⟨n, q, y, hn, ⟨hn1, hn2, hn3⟩, hp, ho, hc, hy, hd, hz⟩ := arrive_law (valveOf ⟨l.take 2000, 0⟩).1 (valveOf_valid _ _)
  refine FnC.intro 94 Try.func3 rfl nm3 rfl lb (fun w F => ?_)
  refine W.seq ?_
  refine W.region ?_
  refine G.step (rd_assign (s := .b _) (by decide)) rfl ?_
  refine G.done ?_
  refine W.seq ?_
  refine W.region ?_
  refine G.step (rd_move (s := slOf _ _ _ _) (by decide)) rfl ?_
  refine G.step (rd_callN (b := 13) (xs := [.tmp 12]) (by decide) (new_ok _)) ⟨⟨rfl, trivial⟩, rfl, rfl⟩ ?_
  refine G.step (rd_assign (s := .ptr _ _) (by decide)) rfl ?_
  refine G.done ?_
  refine W.seq ?_
  refine W.region ?_
  refine G.step (rd_move (s := .ptr _ _) (by decide)) rfl ?_
  refine G.step (rd_callV (xs := []) (by decide) (svalve_ok ⟨_, _⟩ hs) rfl rfl) ⟨rfl, rfl, ⟨rfl, rfl, trivial⟩, trivial, rfl, rfl⟩ ?_
  refine G.step (rd_alloc (b := 4) (cs := [.val (.int .i64 0), .val (.int .i64 0), .val (.bool false), .val (.bool false)]) (by decide) ze26 (⟨.inl ⟨rfl, rfl⟩, ⟨.inl ⟨rfl, rfl⟩, ⟨.inl ⟨rfl, rfl⟩, ⟨.inl ⟨rfl, rfl⟩, trivial⟩⟩⟩⟩)) rfl ?_
  refine G.step (rd_storeVS (cs := [.i _, .i _, .b _, .b _]) sz26) ⟨rfl, rfl, rfl, lb, rfl, rfl⟩ ?_
  refine G.done ?_
  refine W.seq ?_
  refine W.region ?_
  refine G.step (rd_fieldP (by decide) fl26_3) rfl ?_
  refine G.step (rd_storeV (s := .b _) sz4) ⟨rfl, rfl, rfl, lb, rfl⟩ ?_
  refine G.done ?_
  refine W.seq ?_
  refine W.region ?_
  refine G.step (rd_loadVS (cs := [.i _, .i _, .b _, .b _]) (by decide) ag26) ⟨rfl, rfl, ⟨lb, rfl⟩, ⟨rfl, rfl, rfl, rfl, trivial⟩⟩ ?_
  refine G.step (rd_call (xs := [.tmp 17]) (by decide) ((left_ok ⟨(valveOf ⟨l.take 2000, 0⟩).1.travel, (valveOf ⟨l.take 2000, 0⟩).1.opn, (valveOf ⟨l.take 2000, 0⟩).1.want, false⟩).res (res' := .i n) (by rw [hn]))) ⟨⟨rfl, trivial⟩, rfl⟩ ?_
  refine G.step (rd_assign (s := .i _) (by decide)) rfl ?_
  refine G.done ?_
  refine W.seq ?_
  refine W.seq ?_
  refine W.region ?_
  refine G.step (rd_move (s := .i _) (by decide)) rfl ?_
  refine G.step (rd_lss (k := .i64) (by decide)) ⟨rfl, rfl⟩ ?_
  refine G.step (rd_move (s := .b _) (by decide)) rfl ?_
  refine G.step (rd_guard (ts := []) (rd_move (s := .i _) (by decide)) rfl rfl rfl (by decide) (by decide)) ⟨rfl, trivial, fun hg => rfl⟩ ?_
  refine G.step (rd_guard (ts := []) (rd_fieldP (by decide) fl26_0) rfl rfl rfl (by decide) (by decide)) ⟨rfl, trivial, fun hg => rfl⟩ ?_
  refine G.step (rd_guard (ts := [23]) (rd_loadV (s := .i _) (by decide) sc3) rfl rfl rfl (by decide) (by decide)) ⟨rfl, ⟨fun h => by first | exact h | simp_all, trivial⟩, fun hg => ⟨rfl, rfl, lb, rfl⟩⟩ ?_
  refine G.step (rd_guard (ts := [22, 24]) (rd_gtr (k := .i64) (by decide)) rfl rfl rfl (by decide) (by decide)) ⟨rfl, ⟨fun h => by first | exact h | simp_all, fun h => by first | exact h | simp_all, trivial⟩, fun hg => ⟨rfl, rfl⟩⟩ ?_
  refine G.step (rd_pickOr (by decide)) ⟨rfl, rfl, fun hp => by first | (rw [hp]; rfl) | simp_all⟩ ?_
  refine G.done ?_
  refine W.cond (t := _) rfl (fun h0 => ?_) (fun h0 => ?_)
  · (try simp only [Bool.and_eq_true, Bool.or_eq_true, Bool.not_eq_true', Bool.not_eq_false', Bool.and_eq_false_iff, Bool.or_eq_false_iff, decide_eq_true_eq, decide_eq_false_iff_not, beq_iff_eq, bne_iff_ne, Bool.not_true, Bool.not_false, Bool.not_not, beq_eq_false_iff_ne] at h0)
    exfalso; simp_all <;> omega
  · (try simp only [Bool.and_eq_true, Bool.or_eq_true, Bool.not_eq_true', Bool.not_eq_false', Bool.and_eq_false_iff, Bool.or_eq_false_iff, decide_eq_true_eq, decide_eq_false_iff_not, beq_iff_eq, bne_iff_ne, Bool.not_true, Bool.not_false, Bool.not_not, beq_eq_false_iff_ne] at h0)
    refine W.skip ?_
    refine W.seq ?_
    refine W.region ?_
    refine G.step (rd_loadVS (cs := [.i _, .i _, .b _, .b _]) (by decide) ag26) ⟨rfl, rfl, ⟨lb, rfl⟩, ⟨rfl, rfl, rfl, rfl, trivial⟩⟩ ?_
    refine G.step (rd_move (s := .i _) (by decide)) rfl ?_
    refine G.step (rd_call (xs := [.tmp 28, .tmp 29]) (by decide) ((pass_ok ⟨(valveOf ⟨l.take 2000, 0⟩).1.travel, (valveOf ⟨l.take 2000, 0⟩).1.opn, (valveOf ⟨l.take 2000, 0⟩).1.want, false⟩ n).res (res' := .tup [(⟨(valveOf ⟨l.take 2000, 0⟩).1.travel, q, (valveOf ⟨l.take 2000, 0⟩).1.want, false⟩ : Valve).sv, .i 0]) (by rw [hp]))) ⟨⟨rfl, rfl, trivial⟩, rfl⟩ ?_
    refine G.step (rd_move (s := .tup [.agg [.i _, .i _, .b _, .b _], .i _]) (by decide)) rfl ?_
    refine G.step (rd_extract (s := .agg [.i _, .i _, .b _, .b _]) (by decide)) ⟨rfl, rfl⟩ ?_
    refine G.step (rd_extract (s := .i _) (by decide)) ⟨rfl, rfl⟩ ?_
    refine G.step (rd_alloc (b := 6) (cs := [.val (.int .i64 0), .val (.int .i64 0), .val (.bool false), .val (.bool false)]) (by decide) ze26 (⟨.inl ⟨rfl, rfl⟩, ⟨.inl ⟨rfl, rfl⟩, ⟨.inl ⟨rfl, rfl⟩, ⟨.inl ⟨rfl, rfl⟩, trivial⟩⟩⟩⟩)) rfl ?_
    refine G.step (rd_storeVS (cs := [.i _, .i _, .b _, .b _]) sz26) ⟨rfl, rfl, rfl, lb, rfl, rfl⟩ ?_
    refine G.step (rd_assign (s := .i _) (by decide)) rfl ?_
    refine G.done ?_
    refine W.prune (regs := [(2, .b _), (4, .ptr _ _), (5, .i _), (6, .ptr _ _), (7, .i _)]) (vars := [(4, _, [.i _, .i _, .b _, .b _]), (6, _, [.i _, .i _, .b _, .b _])]) (arrs := []) ⟨⟨rfl, rfl⟩, ⟨rfl, rfl⟩, ⟨rfl, rfl⟩, ⟨rfl, rfl⟩, ⟨rfl, rfl⟩, trivial⟩ ⟨⟨_, rfl, rfl, ⟨⟨rfl, rfl⟩, ⟨rfl, rfl⟩, ⟨rfl, rfl⟩, ⟨rfl, rfl⟩, trivial⟩⟩, ⟨_, rfl, rfl, ⟨⟨rfl, rfl⟩, ⟨rfl, rfl⟩, ⟨rfl, rfl⟩, ⟨rfl, rfl⟩, trivial⟩⟩, trivial⟩ trivial rfl PinOk.none ?_
    refine W.seq ?_
    refine W.seq ?_
    refine W.drawn mx ?_
    refine G.step (rd_move (s := .i _) (by decide)) rfl ?_
    refine G.step (rd_neq (k := .i64) (by decide)) ⟨rfl, rfl⟩ ?_
    refine G.step (rd_move (s := .b _) (by decide)) rfl ?_
    refine G.step (rd_guard (ts := []) (rd_fieldP (by decide) fl26_2) rfl rfl rfl (by decide) (by decide)) ⟨rfl, trivial, fun hg => rfl⟩ ?_
    refine G.step (rd_guard (ts := [36]) (rd_loadV (s := .b _) (by decide) sc4) rfl rfl rfl (by decide) (by decide)) ⟨rfl, ⟨fun h => by first | exact h | simp_all, trivial⟩, fun hg => ⟨rfl, rfl, lb, rfl⟩⟩ ?_
    refine G.step (rd_guard (ts := []) (rd_loadVS (cs := [.i _, .i _, .b _, .b _]) (by decide) ag26) rfl rfl rfl (by decide) (by decide)) ⟨rfl, trivial, fun hg => ⟨rfl, rfl, ⟨lb, rfl⟩, ⟨rfl, rfl, rfl, rfl, trivial⟩⟩⟩ ?_
    refine G.step (rd_guard (ts := [38]) (rd_call (xs := [.tmp 38]) (by decide) ((open_ok ⟨(valveOf ⟨l.take 2000, 0⟩).1.travel, q, (valveOf ⟨l.take 2000, 0⟩).1.want, false⟩).res (res' := .b (valveOf ⟨l.take 2000, 0⟩).1.want) (by rw [ho]))) rfl rfl rfl (by decide) (by decide)) ⟨rfl, ⟨fun h => by first | exact h | simp_all, trivial⟩, fun hg => ⟨⟨rfl, trivial⟩, rfl⟩⟩ ?_
    refine G.step (rd_guard (ts := [37, 39]) (rd_neqB Try.underlying4 (by decide)) rfl rfl rfl (by decide) (by decide)) ⟨rfl, ⟨fun h => by first | exact h | simp_all, fun h => by first | exact h | simp_all, trivial⟩, fun hg => ⟨rfl, rfl⟩⟩ ?_
    refine G.step (rd_guard (ts := [40]) (rd_move (s := .b _) (by decide)) rfl rfl rfl (by decide) (by decide)) ⟨rfl, ⟨fun h => by first | exact h | simp_all, trivial⟩, fun hg => rfl⟩ ?_
    refine G.step (rd_guardW (ts := []) (rd_fieldP (by decide) fl26_2) rfl rfl rfl (by decide) (by decide)) ⟨rfl, trivial, fun hg => rfl⟩ ?_
    refine G.step (rd_guardW (ts := [42]) (rd_loadV (s := .b _) (by decide) sc4) rfl rfl rfl (by decide) (by decide)) ⟨rfl, ⟨fun h => by first | exact h | simp_all, trivial⟩, fun hg => ⟨rfl, rfl, lb, rfl⟩⟩ ?_
    refine G.step (rd_guard (ts := [41]) (rd_pickAnd (by decide)) rfl rfl rfl (by decide) (by decide)) ⟨rfl, ⟨fun h => by first | exact h | simp_all, trivial⟩, fun hg => ⟨rfl, rfl, fun hp => by first | (rw [hp]; rfl) | simp_all⟩⟩ ?_
    refine G.step (rd_pickOr (by decide)) ⟨rfl, rfl, fun hp => by first | (rw [hp]; rfl) | simp_all⟩ ?_
    refine G.step (rd_move (s := .b _) (by decide)) rfl ?_
    refine G.step (rd_guard (ts := []) (rd_fieldP (by decide) fl26_2) rfl rfl rfl (by decide) (by decide)) ⟨rfl, trivial, fun hg => rfl⟩ ?_
    refine G.step (rd_guard (ts := [47]) (rd_loadV (s := .b _) (by decide) sc4) rfl rfl rfl (by decide) (by decide)) ⟨rfl, ⟨fun h => by first | exact h | simp_all, trivial⟩, fun hg => ⟨rfl, rfl, lb, rfl⟩⟩ ?_
    refine G.step (rd_guard (ts := [48]) (rd_not (by decide)) rfl rfl rfl (by decide) (by decide)) ⟨rfl, ⟨fun h => by first | exact h | simp_all, trivial⟩, fun hg => rfl⟩ ?_
    refine G.step (rd_guard (ts := [49]) (rd_move (s := .b _) (by decide)) rfl rfl rfl (by decide) (by decide)) ⟨rfl, ⟨fun h => by first | exact h | simp_all, trivial⟩, fun hg => rfl⟩ ?_
    refine G.step (rd_guardW (ts := []) (rd_loadVS (cs := [.i _, .i _, .b _, .b _]) (by decide) ag26) rfl rfl rfl (by decide) (by decide)) ⟨rfl, trivial, fun hg => ⟨rfl, rfl, ⟨lb, rfl⟩, ⟨rfl, rfl, rfl, rfl, trivial⟩⟩⟩ ?_
    refine G.step (rd_guardW (ts := [51]) (rd_call (xs := [.tmp 51]) (by decide) ((closed_ok ⟨(valveOf ⟨l.take 2000, 0⟩).1.travel, q, (valveOf ⟨l.take 2000, 0⟩).1.want, false⟩).res (res' := .b (!(valveOf ⟨l.take 2000, 0⟩).1.want)) (by rw [hc]))) rfl rfl rfl (by decide) (by decide)) ⟨rfl, ⟨fun h => by first | exact h | simp_all, trivial⟩, fun hg => ⟨⟨rfl, trivial⟩, rfl⟩⟩ ?_
    refine G.step (rd_guardW (ts := [52]) (rd_not (by decide)) rfl rfl rfl (by decide) (by decide)) ⟨rfl, ⟨fun h => by first | exact h | simp_all, trivial⟩, fun hg => rfl⟩ ?_
    refine G.step (rd_guard (ts := [50]) (rd_pickAnd (by decide)) rfl rfl rfl (by decide) (by decide)) ⟨rfl, ⟨fun h => by first | exact h | simp_all, trivial⟩, fun hg => ⟨rfl, rfl, fun hp => by first | (rw [hp]; rfl) | simp_all⟩⟩ ?_
    refine G.step (rd_pickOr (by decide)) ⟨rfl, rfl, fun hp => by first | (rw [hp]; rfl) | simp_all⟩ ?_
    refine G.drawn (by kernel_rfl) ?_
    refine W.cond (t := _) rfl (fun h1 => ?_) (fun h1 => ?_)
    · (try simp only [Bool.and_eq_true, Bool.or_eq_true, Bool.not_eq_true', Bool.not_eq_false', Bool.and_eq_false_iff, Bool.or_eq_false_iff, decide_eq_true_eq, decide_eq_false_iff_not, beq_iff_eq, bne_iff_ne, Bool.not_true, Bool.not_false, Bool.not_not, beq_eq_false_iff_ne] at h1)
      exfalso; simp_all
    · (try simp only [Bool.and_eq_true, Bool.or_eq_true, Bool.not_eq_true', Bool.not_eq_false', Bool.and_eq_false_iff, Bool.or_eq_false_iff, decide_eq_true_eq, decide_eq_false_iff_not, beq_iff_eq, bne_iff_ne, Bool.not_true, Bool.not_false, Bool.not_not, beq_eq_false_iff_ne] at h1)
      refine W.skip ?_
      refine W.seq ?_
      refine W.region ?_
      refine G.step (rd_loadVS (cs := [.i _, .i _, .b _, .b _]) (by decide) ag26) ⟨rfl, rfl, ⟨lb, rfl⟩, ⟨rfl, rfl, rfl, rfl, trivial⟩⟩ ?_
      refine G.step (rd_move (s := .i _) (by decide)) rfl ?_
      refine G.step (rd_sub (by decide)) ⟨rfl, rfl, (by first | omega | (simp_all; done) | (simp_all; omega))⟩ ?_
      refine G.step (rd_max (by decide)) ⟨rfl, rfl⟩ ?_
      refine G.step (rd_call (xs := [.tmp 57, .tmp 60]) (by decide) ((pass_ok ⟨(valveOf ⟨l.take 2000, 0⟩).1.travel, (valveOf ⟨l.take 2000, 0⟩).1.opn, (valveOf ⟨l.take 2000, 0⟩).1.want, false⟩ (max 0 (n - 1))).res (res' := .tup [(⟨(valveOf ⟨l.take 2000, 0⟩).1.travel, y, (valveOf ⟨l.take 2000, 0⟩).1.want, false⟩ : Valve).sv, .i 0]) (by rw [hy]))) ⟨⟨rfl, rfl, trivial⟩, rfl⟩ ?_
      refine G.step (rd_move (s := .tup [.agg [.i _, .i _, .b _, .b _], .i _]) (by decide)) rfl ?_
      refine G.step (rd_extract (s := .agg [.i _, .i _, .b _, .b _]) (by decide)) ⟨rfl, rfl⟩ ?_
      refine G.step (rd_extract (s := .i _) (by decide)) ⟨rfl, rfl⟩ ?_
      refine G.step (rd_alloc (b := 8) (cs := [.val (.int .i64 0), .val (.int .i64 0), .val (.bool false), .val (.bool false)]) (by decide) ze26 (⟨.inl ⟨rfl, rfl⟩, ⟨.inl ⟨rfl, rfl⟩, ⟨.inl ⟨rfl, rfl⟩, ⟨.inl ⟨rfl, rfl⟩, trivial⟩⟩⟩⟩)) rfl ?_
      refine G.step (rd_storeVS (cs := [.i _, .i _, .b _, .b _]) sz26) ⟨rfl, rfl, rfl, lb, rfl, rfl⟩ ?_
      refine G.step (rd_assign (s := .i _) (by decide)) rfl ?_
      refine G.done ?_
      refine W.prune (regs := [(2, .b _), (5, .i _), (6, .ptr _ _), (8, .ptr _ _), (9, .i _)]) (vars := [(6, _, [.i _, .i _, .b _, .b _]), (8, _, [.i _, .i _, .b _, .b _])]) (arrs := []) ⟨⟨rfl, rfl⟩, ⟨rfl, rfl⟩, ⟨rfl, rfl⟩, ⟨rfl, rfl⟩, ⟨rfl, rfl⟩, trivial⟩ ⟨⟨_, rfl, rfl, ⟨⟨rfl, rfl⟩, ⟨rfl, rfl⟩, ⟨rfl, rfl⟩, ⟨rfl, rfl⟩, trivial⟩⟩, ⟨_, rfl, rfl, ⟨⟨rfl, rfl⟩, ⟨rfl, rfl⟩, ⟨rfl, rfl⟩, ⟨rfl, rfl⟩, trivial⟩⟩, trivial⟩ trivial rfl PinOk.none ?_
      refine W.seq ?_
      refine W.region ?_
      refine G.step (rd_loadVS (cs := [.i _, .i _, .b _, .b _]) (by decide) ag26) ⟨rfl, rfl, ⟨lb, rfl⟩, ⟨rfl, rfl, rfl, rfl, trivial⟩⟩ ?_
      refine G.step (rd_call (xs := [.tmp 65, .const (.int .i64 5)]) (by decide) ((pass_ok ⟨(valveOf ⟨l.take 2000, 0⟩).1.travel, q, (valveOf ⟨l.take 2000, 0⟩).1.want, false⟩ 5).res (res' := .tup [(⟨(valveOf ⟨l.take 2000, 0⟩).1.travel, q, (valveOf ⟨l.take 2000, 0⟩).1.want, false⟩ : Valve).sv, .i 0]) (by rw [hz]))) ⟨⟨rfl, rfl, trivial⟩, rfl⟩ ?_
      refine G.step (rd_move (s := .tup [.agg [.i _, .i _, .b _, .b _], .i _]) (by decide)) rfl ?_
      refine G.step (rd_extract (s := .agg [.i _, .i _, .b _, .b _]) (by decide)) ⟨rfl, rfl⟩ ?_
      refine G.step (rd_extract (s := .i _) (by decide)) ⟨rfl, rfl⟩ ?_
      refine G.step (rd_alloc (b := 10) (cs := [.val (.int .i64 0), .val (.int .i64 0), .val (.bool false), .val (.bool false)]) (by decide) ze26 (⟨.inl ⟨rfl, rfl⟩, ⟨.inl ⟨rfl, rfl⟩, ⟨.inl ⟨rfl, rfl⟩, ⟨.inl ⟨rfl, rfl⟩, trivial⟩⟩⟩⟩)) rfl ?_
      refine G.step (rd_storeVS (cs := [.i _, .i _, .b _, .b _]) sz26) ⟨rfl, rfl, rfl, lb, rfl, rfl⟩ ?_
      refine G.step (rd_assign (s := .i _) (by decide)) rfl ?_
      refine G.done ?_
      refine W.seq ?_
      refine W.region ?_
      refine G.step (rd_move (s := .i _) (by decide)) rfl ?_
      refine G.step (rd_eql (k := .i64) (by decide)) ⟨rfl, rfl⟩ ?_
      refine G.step (rd_move (s := .b _) (by decide)) rfl ?_
      refine G.step (rd_guard (ts := []) (rd_move (s := .i _) (by decide)) rfl rfl rfl (by decide) (by decide)) ⟨rfl, trivial, fun hg => rfl⟩ ?_
      refine G.step (rd_guard (ts := [72]) (rd_eql (k := .i64) (by decide)) rfl rfl rfl (by decide) (by decide)) ⟨rfl, ⟨fun h => by first | exact h | simp_all, trivial⟩, fun hg => ⟨rfl, rfl⟩⟩ ?_
      refine G.step (rd_pickAnd (by decide)) ⟨rfl, rfl, fun hp => by first | (rw [hp]; rfl) | simp_all⟩ ?_
      refine G.step (rd_move (s := .b _) (by decide)) rfl ?_
      refine G.step (rd_guard (ts := []) (rd_loadVS (cs := [.i _, .i _, .b _, .b _]) (by decide) ag26) rfl rfl rfl (by decide) (by decide)) ⟨rfl, trivial, fun hg => ⟨rfl, rfl, ⟨lb, rfl⟩, ⟨rfl, rfl, rfl, rfl, trivial⟩⟩⟩ ?_
      refine G.step (rd_guard (ts := []) (rd_loadVS (cs := [.i _, .i _, .b _, .b _]) (by decide) ag26) rfl rfl rfl (by decide) (by decide)) ⟨rfl, trivial, fun hg => ⟨rfl, rfl, ⟨lb, rfl⟩, ⟨rfl, rfl, rfl, rfl, trivial⟩⟩⟩ ?_
      refine G.step (rd_guard (ts := [76, 77]) (rd_eqlS (xs := [.int .i64 _, .int .i64 _, .bool _, .bool _]) (ys := [.int .i64 _, .int .i64 _, .bool _, .bool _]) (by decide) Try.eqGuardType26 (fun w => ef26 _ _ _ _ _ _ _ _ w)) rfl rfl rfl (by decide) (by decide)) ⟨rfl, ⟨fun h => by first | exact h | simp_all, fun h => by first | exact h | simp_all, trivial⟩, fun hg => ⟨rfl, rfl⟩⟩ ?_
      refine G.step (rd_pickAnd (by decide)) ⟨rfl, rfl, fun hp => by first | (rw [hp]; rfl) | simp_all⟩ ?_
      refine G.step (rd_move (s := .b _) (by decide)) rfl ?_
      refine G.step (rd_guard (ts := []) (rd_move (s := .i _) (by decide)) rfl rfl rfl (by decide) (by decide)) ⟨rfl, trivial, fun hg => rfl⟩ ?_
      refine G.step (rd_guard (ts := [81]) (rd_eql (k := .i64) (by decide)) rfl rfl rfl (by decide) (by decide)) ⟨rfl, ⟨fun h => by first | exact h | simp_all, trivial⟩, fun hg => ⟨rfl, rfl⟩⟩ ?_
      refine G.step (rd_guard (ts := [82]) (rd_move (s := .b _) (by decide)) rfl rfl rfl (by decide) (by decide)) ⟨rfl, ⟨fun h => by first | exact h | simp_all, trivial⟩, fun hg => rfl⟩ ?_
      refine G.step (rd_guardW (ts := []) (rd_fieldP (by decide) fl26_1) rfl rfl rfl (by decide) (by decide)) ⟨rfl, trivial, fun hg => rfl⟩ ?_
      refine G.step (rd_guardW (ts := [84]) (rd_loadV (s := .i _) (by decide) sc3) rfl rfl rfl (by decide) (by decide)) ⟨rfl, ⟨fun h => by first | exact h | simp_all, trivial⟩, fun hg => ⟨rfl, rfl, lb, rfl⟩⟩ ?_
      refine G.step (rd_guardW (ts := []) (rd_fieldP (by decide) fl26_1) rfl rfl rfl (by decide) (by decide)) ⟨rfl, trivial, fun hg => rfl⟩ ?_
      refine G.step (rd_guardW (ts := [86]) (rd_loadV (s := .i _) (by decide) sc3) rfl rfl rfl (by decide) (by decide)) ⟨rfl, ⟨fun h => by first | exact h | simp_all, trivial⟩, fun hg => ⟨rfl, rfl, lb, rfl⟩⟩ ?_
      refine G.step (rd_guardW (ts := [85, 87]) (rd_neq (k := .i64) (by decide)) rfl rfl rfl (by decide) (by decide)) ⟨rfl, ⟨fun h => by first | exact h | simp_all, fun h => by first | exact h | simp_all, trivial⟩, fun hg => ⟨rfl, rfl⟩⟩ ?_
      refine G.step (rd_guard (ts := [83]) (rd_pickOr (by decide)) rfl rfl rfl (by decide) (by decide)) ⟨rfl, ⟨fun h => by first | exact h | simp_all, trivial⟩, fun hg => ⟨rfl, rfl, fun hp => by first | (rw [hp]; rfl) | simp_all⟩⟩ ?_
      refine G.step (rd_pickAnd (by decide)) ⟨rfl, rfl, fun hp => by first | (rw [hp]; rfl) | simp_all⟩ ?_
      refine G.step (rd_move (s := .b _) (by decide)) rfl ?_
      refine G.step (rd_guard (ts := []) (rd_call (xs := []) (by decide) (awake_ok)) rfl rfl rfl (by decide) (by decide)) ⟨rfl, trivial, fun hg => ⟨trivial, rfl⟩⟩ ?_
      refine G.step (rd_pickAnd (by decide)) ⟨rfl, rfl, fun hp => by first | (rw [hp]; rfl) | simp_all⟩ ?_
      refine G.step (rd_assign (s := .b _) (by decide)) rfl ?_
      refine G.done ?_
      refine W.ret (RetQ.mk (ss := [.b _]) ⟨rfl, trivial⟩ ?_ rfl)
      (rcases hd with h | h <;> simp [resOf, h])
end Go.Proofs.Ytjbfofiijdnbkaa
