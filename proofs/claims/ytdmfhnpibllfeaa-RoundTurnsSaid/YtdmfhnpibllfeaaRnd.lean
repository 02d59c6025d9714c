/- Contracts of the round package: each function returns what its Lean twin says. No condition. -/
import Derived.Test.YtdmfhnpibllfeaaRows
import Derived.Test.YtdmfhnpibllfeaaRndP
namespace Go.Proofs.Ytdmfhnpibllfeaa
open Go Go.RowKit Go.Sp
set_option linter.unusedSimpArgs false
set_option linter.unusedVariables false
theorem nm42 : (Try.f42.name == "runtime.NumGoroutine") = false := by kernel_rfl
theorem mx : Try.prog.follows .mixedOrders = true := by kernel_rfl
theorem nm20 : (Try.f20.name == "runtime.NumGoroutine") = false := by kernel_rfl
theorem nm22 : (Try.f22.name == "runtime.NumGoroutine") = false := by kernel_rfl
theorem nm24 : (Try.f24.name == "runtime.NumGoroutine") = false := by kernel_rfl
theorem nm26 : (Try.f26.name == "runtime.NumGoroutine") = false := by kernel_rfl
theorem nm28 : (Try.f28.name == "runtime.NumGoroutine") = false := by kernel_rfl
theorem nm43 : (Try.f43.name == "runtime.NumGoroutine") = false := by kernel_rfl
theorem nm49 : (Try.f49.name == "runtime.NumGoroutine") = false := by kernel_rfl
theorem nm46 : (Try.f46.name == "runtime.NumGoroutine") = false := by kernel_rfl
theorem nm50 : (Try.f50.name == "runtime.NumGoroutine") = false := by kernel_rfl
theorem el22 : elemT Try.prog 22 3 1 := ⟨Try.underlying22, by unfold sizeT; kernel_rfl⟩
theorem sc3 : scalarT Try.prog 3 := ⟨_, Try.underlying3, rfl⟩
theorem sz3 : sizeT Try.prog 3 1 := by unfold sizeT; kernel_rfl
theorem nm48 : (Try.f48.name == "runtime.NumGoroutine") = false := by kernel_rfl
theorem nm39 : (Try.f39.name == "runtime.NumGoroutine") = false := by kernel_rfl
theorem nm45 : (Try.f45.name == "runtime.NumGoroutine") = false := by kernel_rfl
theorem sc22 : scalarT Try.prog 22 := ⟨_, Try.underlying22, rfl⟩
theorem nm32 : (Try.f32.name == "runtime.NumGoroutine") = false := by kernel_rfl
theorem ze3 : zeroT Try.prog 3 (.int .i64 0) := by unfold zeroT; kernel_rfl
theorem ie3 : infoE Try.prog 3 1 8 (.int .i64 0) := ⟨by kernel_rfl, rfl, by decide⟩
theorem nm34 : (Try.f34.name == "runtime.NumGoroutine") = false := by kernel_rfl
theorem nm16 : (Try.f16.name == "runtime.NumGoroutine") = false := by kernel_rfl
theorem nm6 : (Try.f6.name == "runtime.NumGoroutine") = false := by kernel_rfl
theorem nm10 : (Try.f10.name == "runtime.NumGoroutine") = false := by kernel_rfl

theorem divide_ok (a b : Int) : FnC Try.prog 42 [.i a, .i b] (.tup [.i (divI a b).1, .i (divI a b).2.1, .b (divI a b).2.2]) := by
  refine FnC.intro 38 Try.func42 rfl nm42 rfl lb (fun w₀ F₀ => ?_)
  refine W.seq ?_
  refine W.region ?_
  refine G.step (rd_assign (s := .i _) (by decide)) rfl ?_
  refine G.step (rd_assign (s := .i _) (by decide)) rfl ?_
  refine G.step (rd_assign (s := .b _) (by decide)) rfl ?_
  refine G.done ?_
  refine W.seq ?_
  refine W.seq ?_
  refine W.region ?_
  refine G.step (rd_move (s := .i _) (by decide)) rfl ?_
  refine G.step (rd_lss (k := .i64) (by decide)) ⟨rfl, rfl⟩ ?_
  refine G.step (rd_move (s := .b _) (by decide)) rfl ?_
  refine G.step (rd_guard (ts := []) (rd_move (s := .i _) (by decide)) rfl rfl rfl (by decide) (by decide)) ⟨rfl, trivial, fun hg => rfl⟩ ?_
  refine G.step (rd_guard (ts := [12]) (rd_gtr (k := .i64) (by decide)) rfl rfl rfl (by decide) (by decide)) ⟨rfl, ⟨fun h => by first | exact h | simp_all, trivial⟩, fun hg => ⟨rfl, rfl⟩⟩ ?_
  refine G.step (rd_pickOr (by decide)) ⟨rfl, rfl, fun hp => by first | (rw [hp]; rfl) | simp_all⟩ ?_
  refine G.step (rd_move (s := .b _) (by decide)) rfl ?_
  refine G.step (rd_guard (ts := []) (rd_move (s := .i _) (by decide)) rfl rfl rfl (by decide) (by decide)) ⟨rfl, trivial, fun hg => rfl⟩ ?_
  refine G.step (rd_guard (ts := [16]) (rd_lss (k := .i64) (by decide)) rfl rfl rfl (by decide) (by decide)) ⟨rfl, ⟨fun h => by first | exact h | simp_all, trivial⟩, fun hg => ⟨rfl, rfl⟩⟩ ?_
  refine G.step (rd_pickOr (by decide)) ⟨rfl, rfl, fun hp => by first | (rw [hp]; rfl) | simp_all⟩ ?_
  refine G.step (rd_move (s := .b _) (by decide)) rfl ?_
  refine G.step (rd_guard (ts := []) (rd_move (s := .i _) (by decide)) rfl rfl rfl (by decide) (by decide)) ⟨rfl, trivial, fun hg => rfl⟩ ?_
  refine G.step (rd_guard (ts := [20]) (rd_gtr (k := .i64) (by decide)) rfl rfl rfl (by decide) (by decide)) ⟨rfl, ⟨fun h => by first | exact h | simp_all, trivial⟩, fun hg => ⟨rfl, rfl⟩⟩ ?_
  refine G.step (rd_pickOr (by decide)) ⟨rfl, rfl, fun hp => by first | (rw [hp]; rfl) | simp_all⟩ ?_
  refine G.done ?_
  refine W.cond (t := _) rfl (fun h0 => ?_) (fun h0 => ?_)
  · (try simp only [Bool.and_eq_true, Bool.or_eq_true, Bool.not_eq_true', Bool.not_eq_false', Bool.and_eq_false_iff, Bool.or_eq_false_iff, decide_eq_true_eq, decide_eq_false_iff_not, beq_iff_eq, bne_iff_ne, Bool.not_true, Bool.not_false, Bool.not_not, beq_eq_false_iff_ne] at h0)
    refine W.seq ?_
    refine W.region ?_
    refine G.step (rd_assign (s := .i _) (by decide)) rfl ?_
    refine G.step (rd_assign (s := .i _) (by decide)) rfl ?_
    refine G.step (rd_assign (s := .b _) (by decide)) rfl ?_
    refine G.done ?_
    refine W.ret (RetQ.mk (ss := [.i _, .i _, .b _]) ⟨rfl, rfl, rfl, trivial⟩ ?_ rfl)
    (have hpr : properB a b = false := by { rw [← Bool.not_eq_true]; intro h; have := proper_bd h; omega }); simp [divI, hpr, resOf]
  · (try simp only [Bool.and_eq_true, Bool.or_eq_true, Bool.not_eq_true', Bool.not_eq_false', Bool.and_eq_false_iff, Bool.or_eq_false_iff, decide_eq_true_eq, decide_eq_false_iff_not, beq_iff_eq, bne_iff_ne, Bool.not_true, Bool.not_false, Bool.not_not, beq_eq_false_iff_ne] at h0)
    have hq := tdiv_bd a b (by omega) (by omega)
    have hm := tmod_bd a b (by omega)
    have e1 := tdiv_fix a b (by omega)
    have e2 := mod_fix a b (by omega)
    have hpr : properB a b = true := by simp only [properB, Bool.and_eq_true, decide_eq_true_eq]; omega
    refine W.skip ?_
    refine W.seq ?_
    refine W.drawn mx ?_
    refine G.step (rd_move (s := .i _) (by decide)) rfl ?_
    refine G.step (rd_move (s := .i _) (by decide)) rfl ?_
    refine G.step (rd_quo (by decide)) ⟨rfl, rfl, (by first | omega | (simp_all; done) | (simp_all; omega))⟩ ?_
    refine G.step (rd_move (s := .i _) (by decide)) rfl ?_
    refine G.step (rd_move (s := .i _) (by decide)) rfl ?_
    refine G.step (rd_rem (by decide)) ⟨rfl, rfl, (by first | omega | (simp_all; done) | (simp_all; omega))⟩ ?_
    refine G.step (rd_assign (s := .i _) (by decide)) rfl ?_
    refine G.step (rd_assign (s := .i _) (by decide)) rfl ?_
    refine G.drawn (by kernel_rfl) ?_
    refine W.seq ?_
    refine W.seq ?_
    refine W.region ?_
    refine G.step (rd_move (s := .i _) (by decide)) rfl ?_
    refine G.step (rd_lss (k := .i64) (by decide)) ⟨rfl, rfl⟩ ?_
    refine G.done ?_
    refine W.cond (t := _) rfl (fun h1 => ?_) (fun h1 => ?_)
    · (try simp only [Bool.and_eq_true, Bool.or_eq_true, Bool.not_eq_true', Bool.not_eq_false', Bool.and_eq_false_iff, Bool.or_eq_false_iff, decide_eq_true_eq, decide_eq_false_iff_not, beq_iff_eq, bne_iff_ne, Bool.not_true, Bool.not_false, Bool.not_not, beq_eq_false_iff_ne] at h1)
      refine W.region ?_
      refine G.step (rd_move (s := .i _) (by decide)) rfl ?_
      refine G.step (rd_sub (by decide)) ⟨rfl, rfl, (by first | omega | (simp_all; done) | (simp_all; omega))⟩ ?_
      refine G.step (rd_move (s := .i _) (by decide)) rfl ?_
      refine G.step (rd_move (s := .i _) (by decide)) rfl ?_
      refine G.step (rd_add (by decide)) ⟨rfl, rfl, (by first | omega | (simp_all; done) | (simp_all; omega))⟩ ?_
      refine G.step (rd_assign (s := .i _) (by decide)) rfl ?_
      refine G.step (rd_assign (s := .i _) (by decide)) rfl ?_
      refine G.done ?_
      refine W.prune (regs := [(4, .i _), (5, .i _), (6, .b _), (7, .i _), (8, .i _)]) (vars := []) (arrs := []) ⟨⟨rfl, rfl⟩, ⟨rfl, rfl⟩, ⟨rfl, rfl⟩, ⟨rfl, rfl⟩, ⟨rfl, rfl⟩, trivial⟩ trivial trivial rfl PinOk.none ?_
      refine W.seq ?_
      refine W.region ?_
      refine G.step (rd_move (s := .i _) (by decide)) rfl ?_
      refine G.step (rd_move (s := .i _) (by decide)) rfl ?_
      refine G.step (rd_assign (s := .i _) (by decide)) rfl ?_
      refine G.step (rd_assign (s := .i _) (by decide)) rfl ?_
      refine G.step (rd_assign (s := .b _) (by decide)) rfl ?_
      refine G.done ?_
      refine W.ret (RetQ.mk (ss := [.i _, .i _, .b _]) ⟨rfl, rfl, rfl, trivial⟩ ?_ rfl)
      (simp only [divI, hpr, if_true, e1, e2, resOf]; first | rfl | (simp only [h1, if_true, if_false]; rfl) | simp [h1])
    · (try simp only [Bool.and_eq_true, Bool.or_eq_true, Bool.not_eq_true', Bool.not_eq_false', Bool.and_eq_false_iff, Bool.or_eq_false_iff, decide_eq_true_eq, decide_eq_false_iff_not, beq_iff_eq, bne_iff_ne, Bool.not_true, Bool.not_false, Bool.not_not, beq_eq_false_iff_ne] at h1)
      refine W.skip ?_
      refine W.seq ?_
      refine W.region ?_
      refine G.step (rd_move (s := .i _) (by decide)) rfl ?_
      refine G.step (rd_move (s := .i _) (by decide)) rfl ?_
      refine G.step (rd_assign (s := .i _) (by decide)) rfl ?_
      refine G.step (rd_assign (s := .i _) (by decide)) rfl ?_
      refine G.step (rd_assign (s := .b _) (by decide)) rfl ?_
      refine G.done ?_
      refine W.ret (RetQ.mk (ss := [.i _, .i _, .b _]) ⟨rfl, rfl, rfl, trivial⟩ ?_ rfl)
      (simp only [divI, hpr, if_true, e1, e2, resOf]; first | rfl | (simp only [h1, if_true, if_false]; rfl) | simp [h1])

theorem down_ok (a b : Int) : FnC Try.prog 20 [.i a, .i b] (.i (downI a b)) := by
  refine FnC.intro 16 Try.func20 rfl nm20 rfl lb (fun w₀ F₀ => ?_)
  refine W.seq ?_
  refine W.region ?_
  refine G.step (rd_assign (s := .i _) (by decide)) rfl ?_
  refine G.done ?_
  refine W.seq ?_
  refine W.region ?_
  refine G.step (rd_move (s := .i _) (by decide)) rfl ?_
  refine G.step (rd_move (s := .i _) (by decide)) rfl ?_
  refine G.step (rd_call (xs := [.tmp 9, .tmp 10]) (by decide) (divide_ok _ _)) ⟨⟨rfl, rfl, trivial⟩, rfl⟩ ?_
  refine G.step (rd_move (s := .tup [.i _, .i _, .b _]) (by decide)) rfl ?_
  refine G.step (rd_extract (s := .i _) (by decide)) ⟨rfl, rfl⟩ ?_
  refine G.step (rd_extract (s := .i _) (by decide)) ⟨rfl, rfl⟩ ?_
  refine G.step (rd_extract (s := .b _) (by decide)) ⟨rfl, rfl⟩ ?_
  refine G.step (rd_assign (s := .i _) (by decide)) rfl ?_
  refine G.step (rd_assign (s := .i _) (by decide)) rfl ?_
  refine G.step (rd_assign (s := .b _) (by decide)) rfl ?_
  refine G.done ?_
  refine W.seq ?_
  refine W.region ?_
  refine G.step (rd_move (s := .i _) (by decide)) rfl ?_
  refine G.step (rd_assign (s := .i _) (by decide)) rfl ?_
  refine G.done ?_
  refine W.ret (RetQ.mk (ss := [.i _]) ⟨rfl, trivial⟩ ?_ rfl)
  (unfold downI divI; split <;> rfl)

theorem up_ok (a b : Int) : FnC Try.prog 22 [.i a, .i b] (.i (upI a b)) := by
  obtain ⟨hd1, hd2, hd3, hd4⟩ := divI_bd a b
  refine FnC.intro 23 Try.func22 rfl nm22 rfl lb (fun w₀ F₀ => ?_)
  refine W.seq ?_
  refine W.region ?_
  refine G.step (rd_assign (s := .i _) (by decide)) rfl ?_
  refine G.done ?_
  refine W.seq ?_
  refine W.region ?_
  refine G.step (rd_move (s := .i _) (by decide)) rfl ?_
  refine G.step (rd_move (s := .i _) (by decide)) rfl ?_
  refine G.step (rd_call (xs := [.tmp 9, .tmp 10]) (by decide) (divide_ok _ _)) ⟨⟨rfl, rfl, trivial⟩, rfl⟩ ?_
  refine G.step (rd_move (s := .tup [.i _, .i _, .b _]) (by decide)) rfl ?_
  refine G.step (rd_extract (s := .i _) (by decide)) ⟨rfl, rfl⟩ ?_
  refine G.step (rd_extract (s := .i _) (by decide)) ⟨rfl, rfl⟩ ?_
  refine G.step (rd_extract (s := .b _) (by decide)) ⟨rfl, rfl⟩ ?_
  refine G.step (rd_assign (s := .i _) (by decide)) rfl ?_
  refine G.step (rd_assign (s := .i _) (by decide)) rfl ?_
  refine G.step (rd_assign (s := .b _) (by decide)) rfl ?_
  refine G.done ?_
  refine W.seq ?_
  refine W.seq ?_
  refine W.region ?_
  refine G.step (rd_move (s := .b _) (by decide)) rfl ?_
  refine G.step (rd_move (s := .b _) (by decide)) rfl ?_
  refine G.step (rd_guard (ts := []) (rd_move (s := .i _) (by decide)) rfl rfl rfl (by decide) (by decide)) ⟨rfl, trivial, fun hg => rfl⟩ ?_
  refine G.step (rd_guard (ts := [17]) (rd_gtr (k := .i64) (by decide)) rfl rfl rfl (by decide) (by decide)) ⟨rfl, ⟨fun h => by first | exact h | simp_all, trivial⟩, fun hg => ⟨rfl, rfl⟩⟩ ?_
  refine G.step (rd_pickAnd (by decide)) ⟨rfl, rfl, fun hp => by first | (rw [hp]; rfl) | simp_all⟩ ?_
  refine G.done ?_
  refine W.cond (t := _) rfl (fun h0 => ?_) (fun h0 => ?_)
  · (try simp only [Bool.and_eq_true, Bool.or_eq_true, Bool.not_eq_true', Bool.not_eq_false', Bool.and_eq_false_iff, Bool.or_eq_false_iff, decide_eq_true_eq, decide_eq_false_iff_not, beq_iff_eq, bne_iff_ne, Bool.not_true, Bool.not_false, Bool.not_not, beq_eq_false_iff_ne] at h0)
    refine W.region ?_
    refine G.step (rd_move (s := .i _) (by decide)) rfl ?_
    refine G.step (rd_add (by decide)) ⟨rfl, rfl, (by first | omega | (simp_all; done) | (simp_all; omega))⟩ ?_
    refine G.step (rd_assign (s := .i _) (by decide)) rfl ?_
    refine G.done ?_
    refine W.seq ?_
    refine W.region ?_
    refine G.step (rd_move (s := .i _) (by decide)) rfl ?_
    refine G.step (rd_assign (s := .i _) (by decide)) rfl ?_
    refine G.done ?_
    refine W.ret (RetQ.mk (ss := [.i _]) ⟨rfl, trivial⟩ ?_ rfl)
    (rw [upI_eq, if_pos h0]; rfl)
  · (try simp only [Bool.and_eq_true, Bool.or_eq_true, Bool.not_eq_true', Bool.not_eq_false', Bool.and_eq_false_iff, Bool.or_eq_false_iff, decide_eq_true_eq, decide_eq_false_iff_not, beq_iff_eq, bne_iff_ne, Bool.not_true, Bool.not_false, Bool.not_not, beq_eq_false_iff_ne] at h0)
    refine W.skip ?_
    refine W.seq ?_
    refine W.region ?_
    refine G.step (rd_move (s := .i _) (by decide)) rfl ?_
    refine G.step (rd_assign (s := .i _) (by decide)) rfl ?_
    refine G.done ?_
    refine W.ret (RetQ.mk (ss := [.i _]) ⟨rfl, trivial⟩ ?_ rfl)
    (rw [upI_eq, if_neg (neg_and h0)]; rfl)

theorem half_ok (a b : Int) : FnC Try.prog 24 [.i a, .i b] (.i (halfI a b)) := by
  obtain ⟨hd1, hd2, hd3, hd4⟩ := divI_bd a b
  refine FnC.intro 25 Try.func24 rfl nm24 rfl lb (fun w₀ F₀ => ?_)
  refine W.seq ?_
  refine W.region ?_
  refine G.step (rd_assign (s := .i _) (by decide)) rfl ?_
  refine G.done ?_
  refine W.seq ?_
  refine W.region ?_
  refine G.step (rd_move (s := .i _) (by decide)) rfl ?_
  refine G.step (rd_move (s := .i _) (by decide)) rfl ?_
  refine G.step (rd_call (xs := [.tmp 9, .tmp 10]) (by decide) (divide_ok _ _)) ⟨⟨rfl, rfl, trivial⟩, rfl⟩ ?_
  refine G.step (rd_move (s := .tup [.i _, .i _, .b _]) (by decide)) rfl ?_
  refine G.step (rd_extract (s := .i _) (by decide)) ⟨rfl, rfl⟩ ?_
  refine G.step (rd_extract (s := .i _) (by decide)) ⟨rfl, rfl⟩ ?_
  refine G.step (rd_extract (s := .b _) (by decide)) ⟨rfl, rfl⟩ ?_
  refine G.step (rd_assign (s := .i _) (by decide)) rfl ?_
  refine G.step (rd_assign (s := .i _) (by decide)) rfl ?_
  refine G.step (rd_assign (s := .b _) (by decide)) rfl ?_
  refine G.done ?_
  refine W.seq ?_
  refine W.seq ?_
  refine W.region ?_
  refine G.step (rd_move (s := .b _) (by decide)) rfl ?_
  refine G.step (rd_move (s := .b _) (by decide)) rfl ?_
  refine G.step (rd_guard (ts := []) (rd_move (s := .i _) (by decide)) rfl rfl rfl (by decide) (by decide)) ⟨rfl, trivial, fun hg => rfl⟩ ?_
  refine G.step (rd_guard (ts := [17]) (rd_mul (by decide)) rfl rfl rfl (by decide) (by decide)) ⟨rfl, ⟨fun h => by first | exact h | simp_all, trivial⟩, fun hg => ⟨rfl, rfl, (by (try simp only [Bool.and_eq_true, Bool.or_eq_true, Bool.not_eq_true', Bool.not_eq_false', Bool.and_eq_false_iff, Bool.or_eq_false_iff, decide_eq_true_eq, decide_eq_false_iff_not, beq_iff_eq, bne_iff_ne, Bool.not_true, Bool.not_false, Bool.not_not, beq_eq_false_iff_ne] at hg); first | omega | (simp_all; done) | (simp_all; omega))⟩⟩ ?_
  refine G.step (rd_guard (ts := []) (rd_move (s := .i _) (by decide)) rfl rfl rfl (by decide) (by decide)) ⟨rfl, trivial, fun hg => rfl⟩ ?_
  refine G.step (rd_guard (ts := [18, 19]) (rd_geq (k := .i64) (by decide)) rfl rfl rfl (by decide) (by decide)) ⟨rfl, ⟨fun h => by first | exact h | simp_all, fun h => by first | exact h | simp_all, trivial⟩, fun hg => ⟨rfl, rfl⟩⟩ ?_
  refine G.step (rd_pickAnd (by decide)) ⟨rfl, rfl, fun hp => by first | (rw [hp]; rfl) | simp_all⟩ ?_
  refine G.done ?_
  refine W.cond (t := _) rfl (fun h0 => ?_) (fun h0 => ?_)
  · (try simp only [Bool.and_eq_true, Bool.or_eq_true, Bool.not_eq_true', Bool.not_eq_false', Bool.and_eq_false_iff, Bool.or_eq_false_iff, decide_eq_true_eq, decide_eq_false_iff_not, beq_iff_eq, bne_iff_ne, Bool.not_true, Bool.not_false, Bool.not_not, beq_eq_false_iff_ne] at h0)
    refine W.region ?_
    refine G.step (rd_move (s := .i _) (by decide)) rfl ?_
    refine G.step (rd_add (by decide)) ⟨rfl, rfl, (by first | omega | (simp_all; done) | (simp_all; omega))⟩ ?_
    refine G.step (rd_assign (s := .i _) (by decide)) rfl ?_
    refine G.done ?_
    refine W.seq ?_
    refine W.region ?_
    refine G.step (rd_move (s := .i _) (by decide)) rfl ?_
    refine G.step (rd_assign (s := .i _) (by decide)) rfl ?_
    refine G.done ?_
    refine W.ret (RetQ.mk (ss := [.i _]) ⟨rfl, trivial⟩ ?_ rfl)
    (rw [halfI_eq, if_pos h0]; rfl)
  · (try simp only [Bool.and_eq_true, Bool.or_eq_true, Bool.not_eq_true', Bool.not_eq_false', Bool.and_eq_false_iff, Bool.or_eq_false_iff, decide_eq_true_eq, decide_eq_false_iff_not, beq_iff_eq, bne_iff_ne, Bool.not_true, Bool.not_false, Bool.not_not, beq_eq_false_iff_ne] at h0)
    refine W.skip ?_
    refine W.seq ?_
    refine W.region ?_
    refine G.step (rd_move (s := .i _) (by decide)) rfl ?_
    refine G.step (rd_assign (s := .i _) (by decide)) rfl ?_
    refine G.done ?_
    refine W.ret (RetQ.mk (ss := [.i _]) ⟨rfl, trivial⟩ ?_ rfl)
    (rw [halfI_eq, if_neg (neg_and h0)]; rfl)

theorem root_ok (n : Int) : FnC Try.prog 26 [.i n] (.i (rootI n)) := by
  refine FnC.intro 34 Try.func26 rfl nm26 rfl lb (fun w₀ F₀ => ?_)
  refine W.seq ?_
  refine W.region ?_
  refine G.step (rd_assign (s := .i _) (by decide)) rfl ?_
  refine G.done ?_
  refine W.seq ?_
  refine W.seq ?_
  refine W.region ?_
  refine G.step (rd_move (s := .i _) (by decide)) rfl ?_
  refine G.step (rd_lss (k := .i64) (by decide)) ⟨rfl, rfl⟩ ?_
  refine G.step (rd_move (s := .b _) (by decide)) rfl ?_
  refine G.step (rd_guard (ts := []) (rd_move (s := .i _) (by decide)) rfl rfl rfl (by decide) (by decide)) ⟨rfl, trivial, fun hg => rfl⟩ ?_
  refine G.step (rd_guard (ts := [8]) (rd_gtr (k := .i64) (by decide)) rfl rfl rfl (by decide) (by decide)) ⟨rfl, ⟨fun h => by first | exact h | simp_all, trivial⟩, fun hg => ⟨rfl, rfl⟩⟩ ?_
  refine G.step (rd_pickOr (by decide)) ⟨rfl, rfl, fun hp => by first | (rw [hp]; rfl) | simp_all⟩ ?_
  refine G.done ?_
  refine W.cond (t := _) rfl (fun h0 => ?_) (fun h0 => ?_)
  · (try simp only [Bool.and_eq_true, Bool.or_eq_true, Bool.not_eq_true', Bool.not_eq_false', Bool.and_eq_false_iff, Bool.or_eq_false_iff, decide_eq_true_eq, decide_eq_false_iff_not, beq_iff_eq, bne_iff_ne, Bool.not_true, Bool.not_false, Bool.not_not, beq_eq_false_iff_ne] at h0)
    refine W.seq ?_
    refine W.region ?_
    refine G.step (rd_assign (s := .i _) (by decide)) rfl ?_
    refine G.done ?_
    refine W.ret (RetQ.mk (ss := [.i _]) ⟨rfl, trivial⟩ ?_ rfl)
    (unfold rootI; rw [if_pos (by omega)]; rfl)
  · (try simp only [Bool.and_eq_true, Bool.or_eq_true, Bool.not_eq_true', Bool.not_eq_false', Bool.and_eq_false_iff, Bool.or_eq_false_iff, decide_eq_true_eq, decide_eq_false_iff_not, beq_iff_eq, bne_iff_ne, Bool.not_true, Bool.not_false, Bool.not_not, beq_eq_false_iff_ne] at h0)
    have hn0 : 0 ≤ n ∧ n ≤ 4611686018427387904 := by omega
    refine W.skip ?_
    refine W.seq ?_
    refine W.region ?_
    refine G.step (rd_assign (s := .i _) (by decide)) rfl ?_
    refine G.done ?_
    refine W.seq ?_
    refine W.seq ?_
    refine W.region ?_
    refine G.step (rd_assign (s := .i _) (by decide)) rfl ?_
    refine G.done ?_
    refine W.block ?_
    refine W.loop (α := RootSt) (fun x => mkSt [(0, .i n), (3, .i x.r), (4, .i x.bit)] [] []) (fun x => x.ok n) (fun x => x.bit.toNat) ⟨0, 2147483648⟩ (by exact Le.mk id ⟨⟨(by first | rfl | (simp only [RootSt.next]; rw [if_pos h2]; rfl) | (simp only [RootSt.next]; rw [if_neg (fun hh => h2.elim (fun q => q hh.1) (fun q => q hh.2))]; rfl)), rfl⟩, ⟨(by first | rfl | (simp only [RootSt.next]; rw [if_pos h2]; rfl) | (simp only [RootSt.next]; rw [if_neg (fun hh => h2.elim (fun q => q hh.1) (fun q => q hh.2))]; rfl)), rfl⟩, ⟨(by first | rfl | (simp only [RootSt.next]; rw [if_pos h2]; rfl) | (simp only [RootSt.next]; rw [if_neg (fun hh => h2.elim (fun q => q hh.1) (fun q => q hh.2))]; rfl)), rfl⟩, trivial⟩ trivial trivial rfl PinOk.none) (root_init hn0.1 hn0.2) (fun x hp => ?_)
    obtain ⟨hx1, hx2, hx3, hx4, hx5, hx6⟩ := id hp; have hsq : x.r + x.bit ≤ 2147483648 → (x.r + x.bit) * (x.r + x.bit) ≤ 4611686018427387904 := fun h => Int.mul_le_mul (a := x.r + x.bit) (b := x.r + x.bit) (c := 2147483648) (d := 2147483648) h h (by omega) (by omega); have hsq0 : 0 ≤ (x.r + x.bit) * (x.r + x.bit) := Int.mul_nonneg (by omega) (by omega)
    refine W.seq ?_
    refine W.seq ?_
    refine W.region ?_
    refine G.step (rd_move (s := .i _) (by decide)) rfl ?_
    refine G.step (rd_gtr (k := .i64) (by decide)) ⟨rfl, rfl⟩ ?_
    refine G.done ?_
    refine W.cond (t := _) rfl (fun h1 => ?_) (fun h1 => ?_)
    · (try simp only [Bool.and_eq_true, Bool.or_eq_true, Bool.not_eq_true', Bool.not_eq_false', Bool.and_eq_false_iff, Bool.or_eq_false_iff, decide_eq_true_eq, decide_eq_false_iff_not, beq_iff_eq, bne_iff_ne, Bool.not_true, Bool.not_false, Bool.not_not, beq_eq_false_iff_ne] at h1)
      refine W.skip ?_
      refine W.seq ?_
      refine W.block ?_
      refine W.seq ?_
      refine W.region ?_
      refine G.step (rd_move (s := .i _) (by decide)) rfl ?_
      refine G.step (rd_move (s := .i _) (by decide)) rfl ?_
      refine G.step (rd_add (by decide)) ⟨rfl, rfl, (by first | omega | (simp_all; done) | (simp_all; omega))⟩ ?_
      refine G.step (rd_leq (k := .i64) (by decide)) ⟨rfl, rfl⟩ ?_
      refine G.step (rd_move (s := .b _) (by decide)) rfl ?_
      refine G.step (rd_guard (ts := []) (rd_move (s := .i _) (by decide)) rfl rfl rfl (by decide) (by decide)) ⟨rfl, trivial, fun hg => rfl⟩ ?_
      refine G.step (rd_guard (ts := []) (rd_move (s := .i _) (by decide)) rfl rfl rfl (by decide) (by decide)) ⟨rfl, trivial, fun hg => rfl⟩ ?_
      refine G.step (rd_guard (ts := [20, 21]) (rd_add (by decide)) rfl rfl rfl (by decide) (by decide)) ⟨rfl, ⟨fun h => by first | exact h | simp_all, fun h => by first | exact h | simp_all, trivial⟩, fun hg => ⟨rfl, rfl, (by (try simp only [Bool.and_eq_true, Bool.or_eq_true, Bool.not_eq_true', Bool.not_eq_false', Bool.and_eq_false_iff, Bool.or_eq_false_iff, decide_eq_true_eq, decide_eq_false_iff_not, beq_iff_eq, bne_iff_ne, Bool.not_true, Bool.not_false, Bool.not_not, beq_eq_false_iff_ne] at hg); first | omega | (simp_all; done) | (simp_all; omega))⟩⟩ ?_
      refine G.step (rd_guard (ts := []) (rd_move (s := .i _) (by decide)) rfl rfl rfl (by decide) (by decide)) ⟨rfl, trivial, fun hg => rfl⟩ ?_
      refine G.step (rd_guard (ts := []) (rd_move (s := .i _) (by decide)) rfl rfl rfl (by decide) (by decide)) ⟨rfl, trivial, fun hg => rfl⟩ ?_
      refine G.step (rd_guard (ts := [23, 24]) (rd_add (by decide)) rfl rfl rfl (by decide) (by decide)) ⟨rfl, ⟨fun h => by first | exact h | simp_all, fun h => by first | exact h | simp_all, trivial⟩, fun hg => ⟨rfl, rfl, (by (try simp only [Bool.and_eq_true, Bool.or_eq_true, Bool.not_eq_true', Bool.not_eq_false', Bool.and_eq_false_iff, Bool.or_eq_false_iff, decide_eq_true_eq, decide_eq_false_iff_not, beq_iff_eq, bne_iff_ne, Bool.not_true, Bool.not_false, Bool.not_not, beq_eq_false_iff_ne] at hg); first | omega | (simp_all; done) | (simp_all; omega))⟩⟩ ?_
      refine G.step (rd_guard (ts := [22, 25]) (rd_mul (by decide)) rfl rfl rfl (by decide) (by decide)) ⟨rfl, ⟨fun h => by first | exact h | simp_all, fun h => by first | exact h | simp_all, trivial⟩, fun hg => ⟨rfl, rfl, (by (try simp only [Bool.and_eq_true, Bool.or_eq_true, Bool.not_eq_true', Bool.not_eq_false', Bool.and_eq_false_iff, Bool.or_eq_false_iff, decide_eq_true_eq, decide_eq_false_iff_not, beq_iff_eq, bne_iff_ne, Bool.not_true, Bool.not_false, Bool.not_not, beq_eq_false_iff_ne] at hg); first | omega | (simp_all; done) | (simp_all; omega))⟩⟩ ?_
      refine G.step (rd_guard (ts := []) (rd_move (s := .i _) (by decide)) rfl rfl rfl (by decide) (by decide)) ⟨rfl, trivial, fun hg => rfl⟩ ?_
      refine G.step (rd_guard (ts := [26, 27]) (rd_leq (k := .i64) (by decide)) rfl rfl rfl (by decide) (by decide)) ⟨rfl, ⟨fun h => by first | exact h | simp_all, fun h => by first | exact h | simp_all, trivial⟩, fun hg => ⟨rfl, rfl⟩⟩ ?_
      refine G.step (rd_pickAnd (by decide)) ⟨rfl, rfl, fun hp => by first | (rw [hp]; rfl) | simp_all⟩ ?_
      refine G.done ?_
      refine W.cond (t := _) rfl (fun h2 => ?_) (fun h2 => ?_)
      · (try simp only [Bool.and_eq_true, Bool.or_eq_true, Bool.not_eq_true', Bool.not_eq_false', Bool.and_eq_false_iff, Bool.or_eq_false_iff, decide_eq_true_eq, decide_eq_false_iff_not, beq_iff_eq, bne_iff_ne, Bool.not_true, Bool.not_false, Bool.not_not, beq_eq_false_iff_ne] at h2)
        refine W.region ?_
        refine G.step (rd_move (s := .i _) (by decide)) rfl ?_
        refine G.step (rd_move (s := .i _) (by decide)) rfl ?_
        refine G.step (rd_add (by decide)) ⟨rfl, rfl, (by first | omega | (simp_all; done) | (simp_all; omega))⟩ ?_
        refine G.step (rd_assign (s := .i _) (by decide)) rfl ?_
        refine G.done ?_
        refine W.region ?_
        refine G.step (rd_move (s := .i _) (by decide)) rfl ?_
        refine G.step (rd_quoN (by decide)) ⟨rfl, rfl, (by first | omega | (simp_all; done) | (simp_all; omega))⟩ ?_
        refine G.step (rd_assign (s := .i _) (by decide)) rfl ?_
        refine G.done ?_
        refine Exists.intro (w := x.next n) ⟨root_next hn0.2 hp h1, (by show (x.bit / 2).toNat < x.bit.toNat; omega), (by exact Le.mk id ⟨⟨(by first | rfl | (simp only [RootSt.next]; rw [if_pos h2]; rfl) | (simp only [RootSt.next]; rw [if_neg (fun hh => h2.elim (fun q => q hh.1) (fun q => q hh.2))]; rfl)), rfl⟩, ⟨(by first | rfl | (simp only [RootSt.next]; rw [if_pos h2]; rfl) | (simp only [RootSt.next]; rw [if_neg (fun hh => h2.elim (fun q => q hh.1) (fun q => q hh.2))]; rfl)), rfl⟩, ⟨(by first | rfl | (simp only [RootSt.next]; rw [if_pos h2]; rfl) | (simp only [RootSt.next]; rw [if_neg (fun hh => h2.elim (fun q => q hh.1) (fun q => q hh.2))]; rfl)), rfl⟩, trivial⟩ trivial trivial rfl PinOk.none)⟩
      · (try simp only [Bool.and_eq_true, Bool.or_eq_true, Bool.not_eq_true', Bool.not_eq_false', Bool.and_eq_false_iff, Bool.or_eq_false_iff, decide_eq_true_eq, decide_eq_false_iff_not, beq_iff_eq, bne_iff_ne, Bool.not_true, Bool.not_false, Bool.not_not, beq_eq_false_iff_ne] at h2)
        refine W.skip ?_
        refine W.region ?_
        refine G.step (rd_move (s := .i _) (by decide)) rfl ?_
        refine G.step (rd_quoN (by decide)) ⟨rfl, rfl, (by first | omega | (simp_all; done) | (simp_all; omega))⟩ ?_
        refine G.step (rd_assign (s := .i _) (by decide)) rfl ?_
        refine G.done ?_
        refine Exists.intro (w := x.next n) ⟨root_next hn0.2 hp h1, (by show (x.bit / 2).toNat < x.bit.toNat; omega), (by exact Le.mk id ⟨⟨(by first | rfl | (simp only [RootSt.next]; rw [if_pos h2]; rfl) | (simp only [RootSt.next]; rw [if_neg (fun hh => h2.elim (fun q => q hh.1) (fun q => q hh.2))]; rfl)), rfl⟩, ⟨(by first | rfl | (simp only [RootSt.next]; rw [if_pos h2]; rfl) | (simp only [RootSt.next]; rw [if_neg (fun hh => h2.elim (fun q => q hh.1) (fun q => q hh.2))]; rfl)), rfl⟩, ⟨(by first | rfl | (simp only [RootSt.next]; rw [if_pos h2]; rfl) | (simp only [RootSt.next]; rw [if_neg (fun hh => h2.elim (fun q => q hh.1) (fun q => q hh.2))]; rfl)), rfl⟩, trivial⟩ trivial trivial rfl PinOk.none)⟩
    · (try simp only [Bool.and_eq_true, Bool.or_eq_true, Bool.not_eq_true', Bool.not_eq_false', Bool.and_eq_false_iff, Bool.or_eq_false_iff, decide_eq_true_eq, decide_eq_false_iff_not, beq_iff_eq, bne_iff_ne, Bool.not_true, Bool.not_false, Bool.not_not, beq_eq_false_iff_ne] at h1)
      refine W.exit ?_
      refine W.seq ?_
      refine W.region ?_
      refine G.step (rd_move (s := .i _) (by decide)) rfl ?_
      refine G.step (rd_assign (s := .i _) (by decide)) rfl ?_
      refine G.done ?_
      refine W.ret (RetQ.mk (ss := [.i _]) ⟨rfl, trivial⟩ ?_ rfl)
      (rw [← root_done hn0.1 hn0.2 hp (by omega)]; rfl)

theorem rootUp_ok (n : Int) : FnC Try.prog 28 [.i n] (.i (rootUpI n)) := by
  have hr := rootI_bd n
  have hs : 0 ≤ rootI n * rootI n := Int.mul_nonneg (by omega) (by omega)
  have hs2 : rootI n * rootI n ≤ 2147483648 * 2147483648 := Int.mul_le_mul (by omega) (by omega) (by omega) (by omega)
  refine FnC.intro 22 Try.func28 rfl nm28 rfl lb (fun w₀ F₀ => ?_)
  refine W.seq ?_
  refine W.region ?_
  refine G.step (rd_assign (s := .i _) (by decide)) rfl ?_
  refine G.done ?_
  refine W.seq ?_
  refine W.region ?_
  refine G.step (rd_move (s := .i _) (by decide)) rfl ?_
  refine G.step (rd_call (xs := [.tmp 4]) (by decide) (root_ok _)) ⟨⟨rfl, trivial⟩, rfl⟩ ?_
  refine G.step (rd_assign (s := .i _) (by decide)) rfl ?_
  refine G.done ?_
  refine W.seq ?_
  refine W.seq ?_
  refine W.region ?_
  refine G.step (rd_move (s := .i _) (by decide)) rfl ?_
  refine G.step (rd_gtr (k := .i64) (by decide)) ⟨rfl, rfl⟩ ?_
  refine G.step (rd_move (s := .b _) (by decide)) rfl ?_
  refine G.step (rd_guard (ts := []) (rd_move (s := .i _) (by decide)) rfl rfl rfl (by decide) (by decide)) ⟨rfl, trivial, fun hg => rfl⟩ ?_
  refine G.step (rd_guard (ts := [9]) (rd_leq (k := .i64) (by decide)) rfl rfl rfl (by decide) (by decide)) ⟨rfl, ⟨fun h => by first | exact h | simp_all, trivial⟩, fun hg => ⟨rfl, rfl⟩⟩ ?_
  refine G.step (rd_pickAnd (by decide)) ⟨rfl, rfl, fun hp => by first | (rw [hp]; rfl) | simp_all⟩ ?_
  refine G.step (rd_move (s := .b _) (by decide)) rfl ?_
  refine G.step (rd_guard (ts := []) (rd_move (s := .i _) (by decide)) rfl rfl rfl (by decide) (by decide)) ⟨rfl, trivial, fun hg => rfl⟩ ?_
  refine G.step (rd_guard (ts := []) (rd_move (s := .i _) (by decide)) rfl rfl rfl (by decide) (by decide)) ⟨rfl, trivial, fun hg => rfl⟩ ?_
  refine G.step (rd_guard (ts := [13, 14]) (rd_mul (by decide)) rfl rfl rfl (by decide) (by decide)) ⟨rfl, ⟨fun h => by first | exact h | simp_all, fun h => by first | exact h | simp_all, trivial⟩, fun hg => ⟨rfl, rfl, (by (try simp only [Bool.and_eq_true, Bool.or_eq_true, Bool.not_eq_true', Bool.not_eq_false', Bool.and_eq_false_iff, Bool.or_eq_false_iff, decide_eq_true_eq, decide_eq_false_iff_not, beq_iff_eq, bne_iff_ne, Bool.not_true, Bool.not_false, Bool.not_not, beq_eq_false_iff_ne] at hg); first | omega | (simp_all; done) | (simp_all; omega))⟩⟩ ?_
  refine G.step (rd_guard (ts := []) (rd_move (s := .i _) (by decide)) rfl rfl rfl (by decide) (by decide)) ⟨rfl, trivial, fun hg => rfl⟩ ?_
  refine G.step (rd_guard (ts := [15, 16]) (rd_lss (k := .i64) (by decide)) rfl rfl rfl (by decide) (by decide)) ⟨rfl, ⟨fun h => by first | exact h | simp_all, fun h => by first | exact h | simp_all, trivial⟩, fun hg => ⟨rfl, rfl⟩⟩ ?_
  refine G.step (rd_pickAnd (by decide)) ⟨rfl, rfl, fun hp => by first | (rw [hp]; rfl) | simp_all⟩ ?_
  refine G.done ?_
  refine W.cond (t := _) rfl (fun h0 => ?_) (fun h0 => ?_)
  · (try simp only [Bool.and_eq_true, Bool.or_eq_true, Bool.not_eq_true', Bool.not_eq_false', Bool.and_eq_false_iff, Bool.or_eq_false_iff, decide_eq_true_eq, decide_eq_false_iff_not, beq_iff_eq, bne_iff_ne, Bool.not_true, Bool.not_false, Bool.not_not, beq_eq_false_iff_ne] at h0)
    refine W.region ?_
    refine G.step (rd_move (s := .i _) (by decide)) rfl ?_
    refine G.step (rd_add (by decide)) ⟨rfl, rfl, (by first | omega | (simp_all; done) | (simp_all; omega))⟩ ?_
    refine G.step (rd_assign (s := .i _) (by decide)) rfl ?_
    refine G.done ?_
    refine W.seq ?_
    refine W.region ?_
    refine G.step (rd_move (s := .i _) (by decide)) rfl ?_
    refine G.step (rd_assign (s := .i _) (by decide)) rfl ?_
    refine G.done ?_
    refine W.ret (RetQ.mk (ss := [.i _]) ⟨rfl, trivial⟩ ?_ rfl)
    (unfold rootUpI; rw [if_pos ⟨h0.1.1, h0.1.2, h0.2⟩]; rfl)
  · (try simp only [Bool.and_eq_true, Bool.or_eq_true, Bool.not_eq_true', Bool.not_eq_false', Bool.and_eq_false_iff, Bool.or_eq_false_iff, decide_eq_true_eq, decide_eq_false_iff_not, beq_iff_eq, bne_iff_ne, Bool.not_true, Bool.not_false, Bool.not_not, beq_eq_false_iff_ne] at h0)
    refine W.skip ?_
    refine W.seq ?_
    refine W.region ?_
    refine G.step (rd_move (s := .i _) (by decide)) rfl ?_
    refine G.step (rd_assign (s := .i _) (by decide)) rfl ?_
    refine G.done ?_
    refine W.ret (RetQ.mk (ss := [.i _]) ⟨rfl, trivial⟩ ?_ rfl)
    (unfold rootUpI; rw [if_neg (fun hh => h0.elim (fun q => q.elim (fun q => q hh.1) (fun q => q hh.2.1)) (fun q => q hh.2.2))]; rfl)

theorem proper_ok (a b : Int) : FnC Try.prog 43 [.i a, .i b] (.b (properB a b)) := by
  refine FnC.intro 19 Try.func43 rfl nm43 rfl lb (fun w₀ F₀ => ?_)
  refine W.seq ?_
  refine W.region ?_
  refine G.step (rd_assign (s := .b _) (by decide)) rfl ?_
  refine G.done ?_
  refine W.seq ?_
  refine W.region ?_
  refine G.step (rd_move (s := .i _) (by decide)) rfl ?_
  refine G.step (rd_geq (k := .i64) (by decide)) ⟨rfl, rfl⟩ ?_
  refine G.step (rd_move (s := .b _) (by decide)) rfl ?_
  refine G.step (rd_guard (ts := []) (rd_move (s := .i _) (by decide)) rfl rfl rfl (by decide) (by decide)) ⟨rfl, trivial, fun hg => rfl⟩ ?_
  refine G.step (rd_guard (ts := [8]) (rd_leq (k := .i64) (by decide)) rfl rfl rfl (by decide) (by decide)) ⟨rfl, ⟨fun h => by first | exact h | simp_all, trivial⟩, fun hg => ⟨rfl, rfl⟩⟩ ?_
  refine G.step (rd_pickAnd (by decide)) ⟨rfl, rfl, fun hp => by first | (rw [hp]; rfl) | simp_all⟩ ?_
  refine G.step (rd_move (s := .b _) (by decide)) rfl ?_
  refine G.step (rd_guard (ts := []) (rd_move (s := .i _) (by decide)) rfl rfl rfl (by decide) (by decide)) ⟨rfl, trivial, fun hg => rfl⟩ ?_
  refine G.step (rd_guard (ts := [12]) (rd_geq (k := .i64) (by decide)) rfl rfl rfl (by decide) (by decide)) ⟨rfl, ⟨fun h => by first | exact h | simp_all, trivial⟩, fun hg => ⟨rfl, rfl⟩⟩ ?_
  refine G.step (rd_pickAnd (by decide)) ⟨rfl, rfl, fun hp => by first | (rw [hp]; rfl) | simp_all⟩ ?_
  refine G.step (rd_move (s := .b _) (by decide)) rfl ?_
  refine G.step (rd_guard (ts := []) (rd_move (s := .i _) (by decide)) rfl rfl rfl (by decide) (by decide)) ⟨rfl, trivial, fun hg => rfl⟩ ?_
  refine G.step (rd_guard (ts := [16]) (rd_leq (k := .i64) (by decide)) rfl rfl rfl (by decide) (by decide)) ⟨rfl, ⟨fun h => by first | exact h | simp_all, trivial⟩, fun hg => ⟨rfl, rfl⟩⟩ ?_
  refine G.step (rd_pickAnd (by decide)) ⟨rfl, rfl, fun hp => by first | (rw [hp]; rfl) | simp_all⟩ ?_
  refine G.step (rd_assign (s := .b _) (by decide)) rfl ?_
  refine G.done ?_
  refine W.ret (RetQ.mk (ss := [.b _]) ⟨rfl, trivial⟩ ?_ rfl)
  simp [resOf, properB, Bool.and_assoc]

theorem isNaN_ok (a : Int) : FnC Try.prog 49 [.i a] (.b false) := by
  refine FnC.intro 6 Try.func49 rfl nm49 rfl lb (fun w₀ F₀ => ?_)
  refine W.seq ?_
  refine W.region ?_
  refine G.step (rd_assign (s := .b _) (by decide)) rfl ?_
  refine G.done ?_
  refine W.seq ?_
  refine W.region ?_
  refine G.step (rd_move (s := .i _) (by decide)) rfl ?_
  refine G.step (rd_move (s := .i _) (by decide)) rfl ?_
  refine G.step (rd_neq (k := .i64) (by decide)) ⟨rfl, rfl⟩ ?_
  refine G.step (rd_assign (s := .b _) (by decide)) rfl ?_
  refine G.done ?_
  refine W.ret (RetQ.mk (ss := [.b _]) ⟨rfl, trivial⟩ ?_ rfl)
  simp [resOf]

theorem compare_ok (a b : Int) : FnC Try.prog 46 [.i a, .i b] (.i (cmpI a b)) := by
  refine FnC.intro 20 Try.func46 rfl nm46 rfl lb (fun w₀ F₀ => ?_)
  refine W.seq ?_
  refine W.region ?_
  refine G.step (rd_assign (s := .i _) (by decide)) rfl ?_
  refine G.done ?_
  refine W.seq ?_
  refine W.region ?_
  refine G.step (rd_move (s := .i _) (by decide)) rfl ?_
  refine G.step (rd_call (xs := [.tmp 7]) (by decide) (isNaN_ok _)) ⟨⟨rfl, trivial⟩, rfl⟩ ?_
  refine G.step (rd_assign (s := .b _) (by decide)) rfl ?_
  refine G.done ?_
  refine W.seq ?_
  refine W.region ?_
  refine G.step (rd_move (s := .i _) (by decide)) rfl ?_
  refine G.step (rd_call (xs := [.tmp 9]) (by decide) (isNaN_ok _)) ⟨⟨rfl, trivial⟩, rfl⟩ ?_
  refine G.step (rd_assign (s := .b _) (by decide)) rfl ?_
  refine G.done ?_
  refine W.seq ?_
  refine W.seq ?_
  refine W.region ?_
  refine G.step (rd_move (s := .b _) (by decide)) rfl ?_
  refine G.done ?_
  refine W.cond (t := _) rfl (fun h0 => ?_) (fun h0 => ?_)
  · (try simp only [Bool.and_eq_true, Bool.or_eq_true, Bool.not_eq_true', Bool.not_eq_false', Bool.and_eq_false_iff, Bool.or_eq_false_iff, decide_eq_true_eq, decide_eq_false_iff_not, beq_iff_eq, bne_iff_ne, Bool.not_true, Bool.not_false, Bool.not_not, beq_eq_false_iff_ne] at h0)
    exfalso; simp_all
  · (try simp only [Bool.and_eq_true, Bool.or_eq_true, Bool.not_eq_true', Bool.not_eq_false', Bool.and_eq_false_iff, Bool.or_eq_false_iff, decide_eq_true_eq, decide_eq_false_iff_not, beq_iff_eq, bne_iff_ne, Bool.not_true, Bool.not_false, Bool.not_not, beq_eq_false_iff_ne] at h0)
    refine W.skip ?_
    refine W.seq ?_
    refine W.seq ?_
    refine W.region ?_
    refine G.step (rd_move (s := .b _) (by decide)) rfl ?_
    refine G.done ?_
    refine W.cond (t := _) rfl (fun h1 => ?_) (fun h1 => ?_)
    · (try simp only [Bool.and_eq_true, Bool.or_eq_true, Bool.not_eq_true', Bool.not_eq_false', Bool.and_eq_false_iff, Bool.or_eq_false_iff, decide_eq_true_eq, decide_eq_false_iff_not, beq_iff_eq, bne_iff_ne, Bool.not_true, Bool.not_false, Bool.not_not, beq_eq_false_iff_ne] at h1)
      exfalso; simp_all
    · (try simp only [Bool.and_eq_true, Bool.or_eq_true, Bool.not_eq_true', Bool.not_eq_false', Bool.and_eq_false_iff, Bool.or_eq_false_iff, decide_eq_true_eq, decide_eq_false_iff_not, beq_iff_eq, bne_iff_ne, Bool.not_true, Bool.not_false, Bool.not_not, beq_eq_false_iff_ne] at h1)
      refine W.skip ?_
      refine W.seq ?_
      refine W.seq ?_
      refine W.region ?_
      refine G.step (rd_move (s := .i _) (by decide)) rfl ?_
      refine G.step (rd_move (s := .i _) (by decide)) rfl ?_
      refine G.step (rd_lss (k := .i64) (by decide)) ⟨rfl, rfl⟩ ?_
      refine G.done ?_
      refine W.cond (t := _) rfl (fun h2 => ?_) (fun h2 => ?_)
      · (try simp only [Bool.and_eq_true, Bool.or_eq_true, Bool.not_eq_true', Bool.not_eq_false', Bool.and_eq_false_iff, Bool.or_eq_false_iff, decide_eq_true_eq, decide_eq_false_iff_not, beq_iff_eq, bne_iff_ne, Bool.not_true, Bool.not_false, Bool.not_not, beq_eq_false_iff_ne] at h2)
        refine W.seq ?_
        refine W.region ?_
        refine G.step (rd_assign (s := .i _) (by decide)) rfl ?_
        refine G.done ?_
        refine W.ret (RetQ.mk (ss := [.i _]) ⟨rfl, trivial⟩ ?_ rfl)
        (unfold cmpI; rw [if_pos (by omega)]; rfl)
      · (try simp only [Bool.and_eq_true, Bool.or_eq_true, Bool.not_eq_true', Bool.not_eq_false', Bool.and_eq_false_iff, Bool.or_eq_false_iff, decide_eq_true_eq, decide_eq_false_iff_not, beq_iff_eq, bne_iff_ne, Bool.not_true, Bool.not_false, Bool.not_not, beq_eq_false_iff_ne] at h2)
        refine W.skip ?_
        refine W.seq ?_
        refine W.seq ?_
        refine W.region ?_
        refine G.step (rd_move (s := .i _) (by decide)) rfl ?_
        refine G.step (rd_move (s := .i _) (by decide)) rfl ?_
        refine G.step (rd_gtr (k := .i64) (by decide)) ⟨rfl, rfl⟩ ?_
        refine G.done ?_
        refine W.cond (t := _) rfl (fun h3 => ?_) (fun h3 => ?_)
        · (try simp only [Bool.and_eq_true, Bool.or_eq_true, Bool.not_eq_true', Bool.not_eq_false', Bool.and_eq_false_iff, Bool.or_eq_false_iff, decide_eq_true_eq, decide_eq_false_iff_not, beq_iff_eq, bne_iff_ne, Bool.not_true, Bool.not_false, Bool.not_not, beq_eq_false_iff_ne] at h3)
          refine W.seq ?_
          refine W.region ?_
          refine G.step (rd_assign (s := .i _) (by decide)) rfl ?_
          refine G.done ?_
          refine W.ret (RetQ.mk (ss := [.i _]) ⟨rfl, trivial⟩ ?_ rfl)
          (unfold cmpI; rw [if_neg (by omega), if_pos (by omega)]; rfl)
        · (try simp only [Bool.and_eq_true, Bool.or_eq_true, Bool.not_eq_true', Bool.not_eq_false', Bool.and_eq_false_iff, Bool.or_eq_false_iff, decide_eq_true_eq, decide_eq_false_iff_not, beq_iff_eq, bne_iff_ne, Bool.not_true, Bool.not_false, Bool.not_not, beq_eq_false_iff_ne] at h3)
          refine W.skip ?_
          refine W.seq ?_
          refine W.region ?_
          refine G.step (rd_assign (s := .i _) (by decide)) rfl ?_
          refine G.done ?_
          refine W.ret (RetQ.mk (ss := [.i _]) ⟨rfl, trivial⟩ ?_ rfl)
          (unfold cmpI; rw [if_neg (by omega), if_neg (by omega)]; rfl)

theorem insSort_ok (c : Int → Int → Int) (dom : Int → Prop) (l : List Int) (a b : Int) (ha : 0 ≤ a) (hab : a ≤ b) (hb : b ≤ l.length) (hl : (l.length : Int) ≤ 1000000) (hd : ∀ x ∈ l, dom x) (hc : ∀ x y, dom x → dom y → -1 ≤ c x y ∧ c x y ≤ 1) : FnS Try.prog 50 [.int .i64 a, .int .i64 b] (cmpR c dom) (arrOf 3 1 cellI 0 l) (arrOf 3 1 cellI 0 (insAll c a (b - (a + 1)).toNat (a + 1).toNat l)) := by
  refine FnS.intro 1000 53 Try.func50 rfl nm50 rfl lb (fun w₀ C v0 vc hC hM => ?_)
  refine W.seq ?_
  refine W.region ?_
  refine G.step (rd_move (s := .i _) (by decide)) rfl ?_
  refine G.step (rd_add (by decide)) ⟨rfl, rfl, (by first | omega | (simp_all; done) | (simp_all; omega))⟩ ?_
  refine G.step (rd_assign (s := .i _) (by decide)) rfl ?_
  refine G.done ?_
  refine W.block ?_
  refine W.loop (α := SortSt) (fun x => mkSt [(0, .own 1000), (1, .i a), (2, .i b), (3, .val vc), (8, .i x.i)] [] [(1000, arrOf 3 1 cellI 0 x.l)]) (fun x => a + 1 ≤ x.i ∧ x.l.length = l.length ∧ (∀ y ∈ x.l, dom y) ∧ insAll c a (b - x.i).toNat x.i.toNat x.l = insAll c a (b - (a + 1)).toNat (a + 1).toNat l ∧ (x.i ≤ b ∨ x.i = a + 1)) (fun x => (b - x.i).toNat) ⟨a + 1, l⟩ (by exact Le.mk id ⟨⟨(by first | rfl | (simp; done) | (congr 2; omega)), rfl⟩, ⟨(by first | rfl | (simp; done) | (congr 2; omega)), rfl⟩, ⟨(by first | rfl | (simp; done) | (congr 2; omega)), rfl⟩, ⟨(by first | rfl | (simp; done) | (congr 2; omega)), rfl⟩, ⟨(by first | rfl | (simp; done) | (congr 2; omega)), rfl⟩, trivial⟩ trivial ⟨rfl, trivial⟩ rfl (PinOk.arr rfl rfl)) (⟨by simp only; omega, rfl, hd, rfl, .inr rfl⟩) (fun x hp => ?_)
  obtain ⟨hx1, hx2, hx3, hx4, hx5⟩ := id hp
  refine W.seq ?_
  refine W.seq ?_
  refine W.region ?_
  refine G.step (rd_move (s := .i _) (by decide)) rfl ?_
  refine G.step (rd_move (s := .i _) (by decide)) rfl ?_
  refine G.step (rd_lss (k := .i64) (by decide)) ⟨rfl, rfl⟩ ?_
  refine G.done ?_
  refine W.cond (t := _) rfl (fun h0 => ?_) (fun h0 => ?_)
  · (try simp only [Bool.and_eq_true, Bool.or_eq_true, Bool.not_eq_true', Bool.not_eq_false', Bool.and_eq_false_iff, Bool.or_eq_false_iff, decide_eq_true_eq, decide_eq_false_iff_not, beq_iff_eq, bne_iff_ne, Bool.not_true, Bool.not_false, Bool.not_not, beq_eq_false_iff_ne] at h0)
    refine W.skip ?_
    refine W.seq ?_
    refine W.block ?_
    refine W.seq ?_
    refine W.region ?_
    refine G.step (rd_move (s := .i _) (by decide)) rfl ?_
    refine G.step (rd_assign (s := .i _) (by decide)) rfl ?_
    refine G.done ?_
    refine W.block ?_
    refine W.loop (α := SortSt) (fun y => mkSt [(0, .own 1000), (1, .i a), (2, .i b), (3, .val vc), (8, .i x.i), (9, .i y.i)] [] [(1000, arrOf 3 1 cellI 0 y.l)]) (fun y => a ≤ y.i ∧ y.i ≤ x.i ∧ y.l.length = l.length ∧ (∀ z ∈ y.l, dom z) ∧ sift c a y.i.toNat y.l = sift c a x.i.toNat x.l) (fun y => y.i.toNat) ⟨x.i, x.l⟩ (by exact Le.mk id ⟨⟨(by first | rfl | (simp; done) | (congr 2; omega)), rfl⟩, ⟨(by first | rfl | (simp; done) | (congr 2; omega)), rfl⟩, ⟨(by first | rfl | (simp; done) | (congr 2; omega)), rfl⟩, ⟨(by first | rfl | (simp; done) | (congr 2; omega)), rfl⟩, ⟨(by first | rfl | (simp; done) | (congr 2; omega)), rfl⟩, ⟨(by first | rfl | (simp; done) | (congr 2; omega)), rfl⟩, trivial⟩ trivial ⟨rfl, trivial⟩ rfl (PinOk.arr rfl rfl)) (⟨by simp only; omega, by simp only; omega, hx2, hx3, rfl⟩) (fun y hp => ?_)
    obtain ⟨hy1, hy2, hy3, hy4, hy5⟩ := id hp
    refine W.seq ?_
    refine W.seq ?_
    refine W.drawn mx ?_
    refine G.step (rd_move (s := .i _) (by decide)) rfl ?_
    refine G.step (rd_move (s := .i _) (by decide)) rfl ?_
    refine G.step (rd_gtr (k := .i64) (by decide)) ⟨rfl, rfl⟩ ?_
    refine G.step (rd_move (s := .b _) (by decide)) rfl ?_
    refine G.step (rd_guard (ts := []) (rd_move (s := .val _) (by decide)) rfl rfl rfl (by decide) (by decide)) ⟨rfl, trivial, fun hg => rfl⟩ ?_
    refine G.step (rd_guard (ts := []) (rd_move (s := .own _) (by decide)) rfl rfl rfl (by decide) (by decide)) ⟨rfl, trivial, fun hg => rfl⟩ ?_
    refine G.step (rd_guard (ts := []) (rd_move (s := .i _) (by decide)) rfl rfl rfl (by decide) (by decide)) ⟨rfl, trivial, fun hg => rfl⟩ ?_
    refine G.step (rd_guard (ts := [23, 24]) (rd_indexO (kd := .i64) (by decide) el22) rfl rfl rfl (by decide) (by decide)) ⟨rfl, ⟨fun h => by first | exact h | simp_all, fun h => by first | exact h | simp_all, trivial⟩, fun hg => ⟨rfl, rfl, rfl, (by (try simp only [Bool.and_eq_true, Bool.or_eq_true, Bool.not_eq_true', Bool.not_eq_false', Bool.and_eq_false_iff, Bool.or_eq_false_iff, decide_eq_true_eq, decide_eq_false_iff_not, beq_iff_eq, bne_iff_ne, Bool.not_true, Bool.not_false, Bool.not_not, beq_eq_false_iff_ne] at hg); first | omega | (simp only [arrOf, List.length_set, List.length_append, List.length_cons, List.length_nil, List.length_replicate]; omega) | (simp_all [arrOf]; done) | (simp_all [arrOf]; omega))⟩⟩ ?_
    refine G.step (rd_guard (ts := [25]) (rd_loadA (s := .i _) (by decide) sc3) rfl rfl rfl (by decide) (by decide)) ⟨rfl, ⟨fun h => by first | exact h | simp_all, trivial⟩, fun hg => ⟨rfl, rfl, rfl, (by (try simp only [Bool.and_eq_true, Bool.or_eq_true, Bool.not_eq_true', Bool.not_eq_false', Bool.and_eq_false_iff, Bool.or_eq_false_iff, decide_eq_true_eq, decide_eq_false_iff_not, beq_iff_eq, bne_iff_ne, Bool.not_true, Bool.not_false, Bool.not_not, beq_eq_false_iff_ne] at hg); first | omega | (simp only [arrOf, List.length_set, List.length_append, List.length_cons, List.length_nil, List.length_replicate]; omega) | (simp_all [arrOf]; done) | (simp_all [arrOf]; omega)), lb, rfl⟩⟩ ?_
    refine G.step (rd_guard (ts := []) (rd_move (s := .own _) (by decide)) rfl rfl rfl (by decide) (by decide)) ⟨rfl, trivial, fun hg => rfl⟩ ?_
    refine G.step (rd_guard (ts := []) (rd_move (s := .i _) (by decide)) rfl rfl rfl (by decide) (by decide)) ⟨rfl, trivial, fun hg => rfl⟩ ?_
    refine G.step (rd_guard (ts := [28]) (rd_sub (by decide)) rfl rfl rfl (by decide) (by decide)) ⟨rfl, ⟨fun h => by first | exact h | simp_all, trivial⟩, fun hg => ⟨rfl, rfl, (by (try simp only [Bool.and_eq_true, Bool.or_eq_true, Bool.not_eq_true', Bool.not_eq_false', Bool.and_eq_false_iff, Bool.or_eq_false_iff, decide_eq_true_eq, decide_eq_false_iff_not, beq_iff_eq, bne_iff_ne, Bool.not_true, Bool.not_false, Bool.not_not, beq_eq_false_iff_ne] at hg); first | omega | (simp_all; done) | (simp_all; omega))⟩⟩ ?_
    refine G.step (rd_guard (ts := [27, 29]) (rd_indexO (kd := .i64) (by decide) el22) rfl rfl rfl (by decide) (by decide)) ⟨rfl, ⟨fun h => by first | exact h | simp_all, fun h => by first | exact h | simp_all, trivial⟩, fun hg => ⟨rfl, rfl, rfl, (by (try simp only [Bool.and_eq_true, Bool.or_eq_true, Bool.not_eq_true', Bool.not_eq_false', Bool.and_eq_false_iff, Bool.or_eq_false_iff, decide_eq_true_eq, decide_eq_false_iff_not, beq_iff_eq, bne_iff_ne, Bool.not_true, Bool.not_false, Bool.not_not, beq_eq_false_iff_ne] at hg); first | omega | (simp only [arrOf, List.length_set, List.length_append, List.length_cons, List.length_nil, List.length_replicate]; omega) | (simp_all [arrOf]; done) | (simp_all [arrOf]; omega))⟩⟩ ?_
    refine G.step (rd_guard (ts := [30]) (rd_loadA (s := .i _) (by decide) sc3) rfl rfl rfl (by decide) (by decide)) ⟨rfl, ⟨fun h => by first | exact h | simp_all, trivial⟩, fun hg => ⟨rfl, rfl, rfl, (by (try simp only [Bool.and_eq_true, Bool.or_eq_true, Bool.not_eq_true', Bool.not_eq_false', Bool.and_eq_false_iff, Bool.or_eq_false_iff, decide_eq_true_eq, decide_eq_false_iff_not, beq_iff_eq, bne_iff_ne, Bool.not_true, Bool.not_false, Bool.not_not, beq_eq_false_iff_ne] at hg); first | omega | (simp only [arrOf, List.length_set, List.length_append, List.length_cons, List.length_nil, List.length_replicate]; omega) | (simp_all [arrOf]; done) | (simp_all [arrOf]; omega)), lb, rfl⟩⟩ ?_
    refine G.step (rd_guard (ts := [22, 26, 31]) (rd_callClo (r := .int .i64 _) [.int .i64 _, .int .i64 _] (by decide) hC hM) rfl rfl rfl (by decide) (by decide)) ⟨rfl, ⟨fun h => by first | exact h | simp_all, fun h => by first | exact h | simp_all, fun h => by first | exact h | simp_all, trivial⟩, fun hg => ⟨rfl, ⟨rfl, rfl, trivial⟩, ⟨_, _, rfl, getD_dom hy4 (by (try simp only [Bool.and_eq_true, Bool.or_eq_true, Bool.not_eq_true', Bool.not_eq_false', Bool.and_eq_false_iff, Bool.or_eq_false_iff, decide_eq_true_eq, decide_eq_false_iff_not, beq_iff_eq, bne_iff_ne, Bool.not_true, Bool.not_false, Bool.not_not, beq_eq_false_iff_ne] at hg); omega), getD_dom hy4 (by (try simp only [Bool.and_eq_true, Bool.or_eq_true, Bool.not_eq_true', Bool.not_eq_false', Bool.and_eq_false_iff, Bool.or_eq_false_iff, decide_eq_true_eq, decide_eq_false_iff_not, beq_iff_eq, bne_iff_ne, Bool.not_true, Bool.not_false, Bool.not_not, beq_eq_false_iff_ne] at hg); omega), rfl⟩⟩⟩ ?_
    refine G.step (rd_guard (ts := [32]) (rd_lss (k := .i64) (by decide)) rfl rfl rfl (by decide) (by decide)) ⟨rfl, ⟨fun h => by first | exact h | simp_all, trivial⟩, fun hg => ⟨rfl, rfl⟩⟩ ?_
    refine G.step (rd_pickAnd (by decide)) ⟨rfl, rfl, fun hp => by first | (rw [hp]; rfl) | simp_all⟩ ?_
    refine G.drawn (by kernel_rfl) ?_
    refine W.cond (t := _) rfl (fun h1 => ?_) (fun h1 => ?_)
    · (try simp only [Bool.and_eq_true, Bool.or_eq_true, Bool.not_eq_true', Bool.not_eq_false', Bool.and_eq_false_iff, Bool.or_eq_false_iff, decide_eq_true_eq, decide_eq_false_iff_not, beq_iff_eq, bne_iff_ne, Bool.not_true, Bool.not_false, Bool.not_not, beq_eq_false_iff_ne] at h1)
      refine W.skip ?_
      refine W.seq ?_
      refine W.block ?_
      refine W.drawn mx ?_
      refine G.step (rd_move (s := .own _) (by decide)) rfl ?_
      refine G.step (rd_move (s := .i _) (by decide)) rfl ?_
      refine G.step (rd_move (s := .own _) (by decide)) rfl ?_
      refine G.step (rd_move (s := .i _) (by decide)) rfl ?_
      refine G.step (rd_sub (by decide)) ⟨rfl, rfl, (by first | omega | (simp_all; done) | (simp_all; omega))⟩ ?_
      refine G.step (rd_move (s := .own _) (by decide)) rfl ?_
      refine G.step (rd_move (s := .i _) (by decide)) rfl ?_
      refine G.step (rd_sub (by decide)) ⟨rfl, rfl, (by first | omega | (simp_all; done) | (simp_all; omega))⟩ ?_
      refine G.step (rd_indexO (kd := .i64) (by decide) el22) ⟨rfl, rfl, rfl, (by first | omega | (simp only [arrOf, List.length_set, List.length_append, List.length_cons, List.length_nil, List.length_replicate]; omega) | (simp_all [arrOf]; done) | (simp_all [arrOf]; omega))⟩ ?_
      refine G.step (rd_loadA (s := .i _) (by decide) sc3) ⟨rfl, rfl, rfl, (by first | omega | (simp only [arrOf, List.length_set, List.length_append, List.length_cons, List.length_nil, List.length_replicate]; omega) | (simp_all [arrOf]; done) | (simp_all [arrOf]; omega)), lb, rfl⟩ ?_
      refine G.step (rd_move (s := .own _) (by decide)) rfl ?_
      refine G.step (rd_move (s := .i _) (by decide)) rfl ?_
      refine G.step (rd_indexO (kd := .i64) (by decide) el22) ⟨rfl, rfl, rfl, (by first | omega | (simp only [arrOf, List.length_set, List.length_append, List.length_cons, List.length_nil, List.length_replicate]; omega) | (simp_all [arrOf]; done) | (simp_all [arrOf]; omega))⟩ ?_
      refine G.step (rd_loadA (s := .i _) (by decide) sc3) ⟨rfl, rfl, rfl, (by first | omega | (simp only [arrOf, List.length_set, List.length_append, List.length_cons, List.length_nil, List.length_replicate]; omega) | (simp_all [arrOf]; done) | (simp_all [arrOf]; omega)), lb, rfl⟩ ?_
      refine G.step (rd_indexO (kd := .i64) (by decide) el22) ⟨rfl, rfl, rfl, (by first | omega | (simp only [arrOf, List.length_set, List.length_append, List.length_cons, List.length_nil, List.length_replicate]; omega) | (simp_all [arrOf]; done) | (simp_all [arrOf]; omega))⟩ ?_
      refine G.step (rd_storeA (s := .i _) _ sz3) ⟨rfl, rfl, rfl, rfl, rfl, (by first | omega | (simp only [arrOf, List.length_set, List.length_append, List.length_cons, List.length_nil, List.length_replicate]; omega) | (simp_all [arrOf]; done) | (simp_all [arrOf]; omega)), lb, ⟨rfl, trivial⟩⟩ ?_
      refine G.step (rd_indexO (kd := .i64) (by decide) el22) ⟨rfl, rfl, rfl, (by first | omega | (simp only [arrOf, List.length_set, List.length_append, List.length_cons, List.length_nil, List.length_replicate]; omega) | (simp_all [arrOf]; done) | (simp_all [arrOf]; omega))⟩ ?_
      refine G.step (rd_storeA (s := .i _) _ sz3) ⟨rfl, rfl, rfl, rfl, rfl, (by first | omega | (simp only [arrOf, List.length_set, List.length_append, List.length_cons, List.length_nil, List.length_replicate]; omega) | (simp_all [arrOf]; done) | (simp_all [arrOf]; omega)), lb, ⟨rfl, trivial⟩⟩ ?_
      refine G.drawn (by kernel_rfl) ?_
      refine W.region ?_
      refine G.step (rd_move (s := .i _) (by decide)) rfl ?_
      refine G.step (rd_sub (by decide)) ⟨rfl, rfl, (by first | omega | (simp_all; done) | (simp_all; omega))⟩ ?_
      refine G.step (rd_assign (s := .i _) (by decide)) rfl ?_
      refine G.done ?_
      refine Exists.intro (w := ⟨y.i - 1, swapI y.l y.i⟩) ⟨⟨by simp only; omega, by simp only; omega, by simp only [swap_len]; exact hy3, swap_dom hy4 (by omega) (by omega), by { simp only; rw [← hy5, sift_step ha h1.1 h1.2] }⟩, (by simp only; omega), (by exact Le.mk id ⟨⟨(by first | rfl | (simp; done) | (congr 2; omega)), rfl⟩, ⟨(by first | rfl | (simp; done) | (congr 2; omega)), rfl⟩, ⟨(by first | rfl | (simp; done) | (congr 2; omega)), rfl⟩, ⟨(by first | rfl | (simp; done) | (congr 2; omega)), rfl⟩, ⟨(by first | rfl | (simp; done) | (congr 2; omega)), rfl⟩, ⟨(by first | rfl | (simp; done) | (congr 2; omega)), rfl⟩, trivial⟩ trivial ⟨rfl, trivial⟩ rfl (PinOk.arr rfl rfl))⟩
    · (try simp only [Bool.and_eq_true, Bool.or_eq_true, Bool.not_eq_true', Bool.not_eq_false', Bool.and_eq_false_iff, Bool.or_eq_false_iff, decide_eq_true_eq, decide_eq_false_iff_not, beq_iff_eq, bne_iff_ne, Bool.not_true, Bool.not_false, Bool.not_not, beq_eq_false_iff_ne] at h1)
      refine W.exit ?_
      refine W.region ?_
      refine G.step (rd_move (s := .i _) (by decide)) rfl ?_
      refine G.step (rd_add (by decide)) ⟨rfl, rfl, (by first | omega | (simp_all; done) | (simp_all; omega))⟩ ?_
      refine G.step (rd_assign (s := .i _) (by decide)) rfl ?_
      refine G.done ?_
      refine Exists.intro (w := ⟨x.i + 1, y.l⟩) ⟨⟨by simp only; omega, hy3, hy4, by { simp only; rw [← hx4, insAll_step (by omega) h0, ← hy5, sift_done ha h1] }, by simp only; omega⟩, (by simp only; omega), (by exact Le.mk id ⟨⟨(by first | rfl | (simp; done) | (congr 2; omega)), rfl⟩, ⟨(by first | rfl | (simp; done) | (congr 2; omega)), rfl⟩, ⟨(by first | rfl | (simp; done) | (congr 2; omega)), rfl⟩, ⟨(by first | rfl | (simp; done) | (congr 2; omega)), rfl⟩, ⟨(by first | rfl | (simp; done) | (congr 2; omega)), rfl⟩, trivial⟩ trivial ⟨rfl, trivial⟩ rfl (PinOk.arr rfl rfl))⟩
  · (try simp only [Bool.and_eq_true, Bool.or_eq_true, Bool.not_eq_true', Bool.not_eq_false', Bool.and_eq_false_iff, Bool.or_eq_false_iff, decide_eq_true_eq, decide_eq_false_iff_not, beq_iff_eq, bne_iff_ne, Bool.not_true, Bool.not_false, Bool.not_not, beq_eq_false_iff_ne] at h0)
    refine W.exit ?_
    refine RetQS.mk rfl ?_ (flat_ints _)
    (rw [← hx4, show (b - x.i).toNat = 0 by omega]; rfl)

theorem stable_ok (c : Int → Int → Int) (dom : Int → Prop) (l : List Int) (n : Int) (hn : n = l.length) (h20 : n < 20) (hd : ∀ x ∈ l, dom x) (hc : ∀ x y, dom x → dom y → -1 ≤ c x y ∧ c x y ≤ 1) : FnS Try.prog 48 [.int .i64 n] (cmpR c dom) (arrOf 3 1 cellI 0 l) (arrOf 3 1 cellI 0 (insAll c 0 (n - (0 + 1)).toNat (0 + 1 : Int).toNat l)) := by
  refine FnS.intro 1000 63 Try.func48 rfl nm48 rfl lb (fun w₀ C v0 vc hC hM => ?_)
  refine W.seq ?_
  refine W.region ?_
  refine G.step (rd_assign (s := .i _) (by decide)) rfl ?_
  refine G.done ?_
  refine W.seq ?_
  refine W.region ?_
  refine G.step (rd_move (s := .i _) (by decide)) rfl ?_
  refine G.step (rd_assign (s := .i _) (by decide)) rfl ?_
  refine G.step (rd_assign (s := .i _) (by decide)) rfl ?_
  refine G.done ?_
  refine W.seq ?_
  refine W.block ?_
  refine W.loop (α := Unit) (fun u => mkSt [(0, .own 1000), (1, .i n), (2, .val vc), (6, .i 20), (7, .i 0), (8, .i 20)] [] [(1000, arrOf 3 1 cellI 0 l)]) (fun u => True) (fun u => 0) () (by exact Le.mk id ⟨⟨(by first | rfl | (simp; done) | (congr 2; omega)), rfl⟩, ⟨(by first | rfl | (simp; done) | (congr 2; omega)), rfl⟩, ⟨(by first | rfl | (simp; done) | (congr 2; omega)), rfl⟩, ⟨(by first | rfl | (simp; done) | (congr 2; omega)), rfl⟩, ⟨(by first | rfl | (simp; done) | (congr 2; omega)), rfl⟩, ⟨(by first | rfl | (simp; done) | (congr 2; omega)), rfl⟩, trivial⟩ trivial ⟨rfl, trivial⟩ rfl (PinOk.arr rfl rfl)) (trivial) (fun u hp => ?_)
  refine W.seq ?_
  refine W.seq ?_
  refine W.region ?_
  refine G.step (rd_move (s := .i _) (by decide)) rfl ?_
  refine G.step (rd_move (s := .i _) (by decide)) rfl ?_
  refine G.step (rd_leq (k := .i64) (by decide)) ⟨rfl, rfl⟩ ?_
  refine G.done ?_
  refine W.cond (t := _) rfl (fun h0 => ?_) (fun h0 => ?_)
  · (try simp only [Bool.and_eq_true, Bool.or_eq_true, Bool.not_eq_true', Bool.not_eq_false', Bool.and_eq_false_iff, Bool.or_eq_false_iff, decide_eq_true_eq, decide_eq_false_iff_not, beq_iff_eq, bne_iff_ne, Bool.not_true, Bool.not_false, Bool.not_not, beq_eq_false_iff_ne] at h0)
    exfalso; omega
  · (try simp only [Bool.and_eq_true, Bool.or_eq_true, Bool.not_eq_true', Bool.not_eq_false', Bool.and_eq_false_iff, Bool.or_eq_false_iff, decide_eq_true_eq, decide_eq_false_iff_not, beq_iff_eq, bne_iff_ne, Bool.not_true, Bool.not_false, Bool.not_not, beq_eq_false_iff_ne] at h0)
    refine W.exit ?_
    refine W.seq ?_
    refine W.region ?_
    refine G.step (rd_move (s := .own _) (by decide)) rfl ?_
    refine G.step (rd_move (s := .i _) (by decide)) rfl ?_
    refine G.step (rd_move (s := .i _) (by decide)) rfl ?_
    refine G.step (rd_move (s := .val _) (by decide)) rfl ?_
    refine G.step (rd_callS (xs := [.tmp 24, .tmp 25]) [.int .i64 _, .int .i64 _] (by decide) (insSort_ok c dom l 0 n (by omega) (by omega) (by omega) (by omega) hd hc) hC hM (flat_ints _)) ⟨rfl, rfl, ⟨rfl, rfl, trivial⟩, rfl⟩ ?_
    refine G.done ?_
    refine W.block ?_
    refine W.loop (α := Unit) (fun u => mkSt [(0, .own 1000), (1, .i n), (2, .val vc), (6, .i 20)] [] [(1000, arrOf 3 1 cellI 0 (insAll c 0 (n - (0 + 1)).toNat (0 + 1 : Int).toNat l))]) (fun u => True) (fun u => 0) () (by exact Le.mk id ⟨⟨(by first | rfl | (simp; done) | (congr 2; omega)), rfl⟩, ⟨(by first | rfl | (simp; done) | (congr 2; omega)), rfl⟩, ⟨(by first | rfl | (simp; done) | (congr 2; omega)), rfl⟩, ⟨(by first | rfl | (simp; done) | (congr 2; omega)), rfl⟩, trivial⟩ trivial ⟨rfl, trivial⟩ rfl (PinOk.arr rfl rfl)) (trivial) (fun u hp => ?_)
    refine W.seq ?_
    refine W.seq ?_
    refine W.region ?_
    refine G.step (rd_move (s := .i _) (by decide)) rfl ?_
    refine G.step (rd_move (s := .i _) (by decide)) rfl ?_
    refine G.step (rd_lss (k := .i64) (by decide)) ⟨rfl, rfl⟩ ?_
    refine G.done ?_
    refine W.cond (t := _) rfl (fun h1 => ?_) (fun h1 => ?_)
    · (try simp only [Bool.and_eq_true, Bool.or_eq_true, Bool.not_eq_true', Bool.not_eq_false', Bool.and_eq_false_iff, Bool.or_eq_false_iff, decide_eq_true_eq, decide_eq_false_iff_not, beq_iff_eq, bne_iff_ne, Bool.not_true, Bool.not_false, Bool.not_not, beq_eq_false_iff_ne] at h1)
      exfalso; omega
    · (try simp only [Bool.and_eq_true, Bool.or_eq_true, Bool.not_eq_true', Bool.not_eq_false', Bool.and_eq_false_iff, Bool.or_eq_false_iff, decide_eq_true_eq, decide_eq_false_iff_not, beq_iff_eq, bne_iff_ne, Bool.not_true, Bool.not_false, Bool.not_not, beq_eq_false_iff_ne] at h1)
      refine W.exit ?_
      refine RetQS.mk rfl ?_ (flat_ints _)
      rfl

theorem sortStable_ok (c : Int → Int → Int) (dom : Int → Prop) (l : List Int) (h20 : l.length < 20) (hd : ∀ x ∈ l, dom x) (hc : ∀ x y, dom x → dom y → -1 ≤ c x y ∧ c x y ≤ 1) : FnS Try.prog 39 [] (cmpR c dom) (arrOf 3 1 cellI 0 l) (arrOf 3 1 cellI 0 (insAll c 0 ((l.length : Int) - (0 + 1)).toNat (0 + 1 : Int).toNat l)) := by
  refine FnS.intro 1000 9 Try.func39 rfl nm39 rfl lb (fun w₀ C v0 vc hC hM => ?_)
  refine W.region ?_
  refine G.step (rd_move (s := .own _) (by decide)) rfl ?_
  refine G.step (rd_move (s := .own _) (by decide)) rfl ?_
  refine G.step (rd_lenO (by decide) Try.underlying22) ⟨rfl, rfl⟩ ?_
  refine G.step (rd_move (s := .val _) (by decide)) rfl ?_
  refine G.step (rd_callS (xs := [.tmp 6]) [.int .i64 _] (by decide) (stable_ok c dom l _ rfl (by omega) hd hc) hC hM (flat_ints _)) ⟨rfl, rfl, ⟨rfl, trivial⟩, rfl⟩ ?_
  refine G.done ?_
  refine RetQS.mk rfl ?_ (flat_ints _)
  rfl

theorem shareCmp_ok (t s : Int) (w : List Int) (ht : 0 ≤ t ∧ t ≤ 1099511627776) (hs : 0 < s) (hw : ∀ x ∈ w, 0 ≤ x ∧ x ≤ 1048576) (i k : Int) (hi : 0 ≤ i ∧ i < w.length) (hk : 0 ≤ k ∧ k < w.length) : FnC Try.prog 45 [.i i, .i k, capR (.i t), capR (ints w), capR (.i s)] (.i (cmpI (restI t s w k) (restI t s w i))) := by
  have h1 := prod_bd ht (getD_bd hw i.toNat)
  have h2 := prod_bd ht (getD_bd hw k.toNat)
  have h3 := getD_bd hw i.toNat
  have h4 := getD_bd hw k.toNat
  refine FnC.intro 25 Try.func45 rfl nm45 rfl lb (fun w₀ F₀ => ?_)
  refine W.seq ?_
  refine W.region ?_
  refine G.step (rd_assign (s := .i _) (by decide)) rfl ?_
  refine G.done ?_
  refine W.seq ?_
  refine W.drawn mx ?_
  refine G.step (rd_loadE (s := .i _) (by decide) sc3) ⟨rfl, lb, rfl⟩ ?_
  refine G.step (rd_loadE (s := slOf _ _ _ _) (by decide) sc22) ⟨rfl, lb, rfl⟩ ?_
  refine G.step (rd_move (s := .i _) (by decide)) rfl ?_
  refine G.step (rd_index (kd := .i64) (by decide) el22) ⟨rfl, rfl, (by first | omega | (simp_all; done) | (simp_all; omega))⟩ ?_
  refine G.step (rd_loadE (s := .i _) (by decide) sc3) ⟨rfl, lb, rfl⟩ ?_
  refine G.step (rd_mul (by decide)) ⟨rfl, rfl, (by first | omega | (simp_all; done) | (simp_all; omega))⟩ ?_
  refine G.step (rd_loadE (s := .i _) (by decide) sc3) ⟨rfl, lb, rfl⟩ ?_
  refine G.step (rd_remN (by decide)) ⟨rfl, rfl, (by first | omega | (simp_all; done) | (simp_all; omega))⟩ ?_
  refine G.step (rd_loadE (s := .i _) (by decide) sc3) ⟨rfl, lb, rfl⟩ ?_
  refine G.step (rd_loadE (s := slOf _ _ _ _) (by decide) sc22) ⟨rfl, lb, rfl⟩ ?_
  refine G.step (rd_move (s := .i _) (by decide)) rfl ?_
  refine G.step (rd_index (kd := .i64) (by decide) el22) ⟨rfl, rfl, (by first | omega | (simp_all; done) | (simp_all; omega))⟩ ?_
  refine G.step (rd_loadE (s := .i _) (by decide) sc3) ⟨rfl, lb, rfl⟩ ?_
  refine G.step (rd_mul (by decide)) ⟨rfl, rfl, (by first | omega | (simp_all; done) | (simp_all; omega))⟩ ?_
  refine G.step (rd_loadE (s := .i _) (by decide) sc3) ⟨rfl, lb, rfl⟩ ?_
  refine G.step (rd_remN (by decide)) ⟨rfl, rfl, (by first | omega | (simp_all; done) | (simp_all; omega))⟩ ?_
  refine G.step (rd_call (xs := [.tmp 15, .tmp 23]) (by decide) (compare_ok _ _)) ⟨⟨rfl, rfl, trivial⟩, rfl⟩ ?_
  refine G.step (rd_assign (s := .i _) (by decide)) rfl ?_
  refine G.drawn (by kernel_rfl) ?_
  refine W.ret (RetQ.mk (ss := [.i _]) ⟨rfl, trivial⟩ ?_ rfl)
  rfl

theorem shares_ok (t : Int) (w : List Int) (h20 : w.length < 20) : FnC Try.prog 32 [.i t, ints w] (.tup [ints (sharesI t w).1, .i (sharesI t w).2]) := by
  refine FnC.intro 95 Try.func32 rfl nm32 rfl lb (fun w₀ F₀ => ?_)
  refine W.seq ?_
  refine W.region ?_
  refine G.step (rd_boxV (b := 2) (s := .i _) (by decide)) ⟨rfl, rfl, rfl⟩ ?_
  refine G.step (rd_boxV (b := 3) (s := slOf _ _ _ _) (by decide)) ⟨rfl, rfl, rfl⟩ ?_
  refine G.step (rd_nilS (cell := cellI) (d0 := 0) (k := 1) (by decide)) trivial ?_
  refine G.step (rd_assign (s := .i _) (by decide)) rfl ?_
  refine G.done ?_
  refine W.seq ?_
  refine W.seq ?_
  refine W.region ?_
  refine G.step (rd_loadV (s := slOf _ _ _ _) (by decide) sc22) ⟨rfl, rfl, lb, rfl⟩ ?_
  refine G.step (rd_len (by decide) Try.underlying22) rfl ?_
  refine G.step (rd_gtr (k := .i64) (by decide)) ⟨rfl, rfl⟩ ?_
  refine G.done ?_
  refine W.cond (t := _) rfl (fun h0 => ?_) (fun h0 => ?_)
  · (try simp only [Bool.and_eq_true, Bool.or_eq_true, Bool.not_eq_true', Bool.not_eq_false', Bool.and_eq_false_iff, Bool.or_eq_false_iff, decide_eq_true_eq, decide_eq_false_iff_not, beq_iff_eq, bne_iff_ne, Bool.not_true, Bool.not_false, Bool.not_not, beq_eq_false_iff_ne] at h0)
    refine W.seq ?_
    refine W.region ?_
    refine G.step (rd_nilS (cell := cellI) (d0 := 0) (k := 1) (by decide)) trivial ?_
    refine G.step (rd_assign (s := .i _) (by decide)) rfl ?_
    refine G.done ?_
    refine W.ret (RetQ.mk (ss := [slOf _ _ _ _, .i _]) ⟨rfl, rfl, trivial⟩ ?_ rfl)
    (unfold sharesI; rw [if_pos (by omega)]; rfl)
  · (try simp only [Bool.and_eq_true, Bool.or_eq_true, Bool.not_eq_true', Bool.not_eq_false', Bool.and_eq_false_iff, Bool.or_eq_false_iff, decide_eq_true_eq, decide_eq_false_iff_not, beq_iff_eq, bne_iff_ne, Bool.not_true, Bool.not_false, Bool.not_not, beq_eq_false_iff_ne] at h0)
    refine W.skip ?_
    refine W.seq ?_
    refine W.seq ?_
    refine W.region ?_
    refine G.step (rd_loadV (s := .i _) (by decide) sc3) ⟨rfl, rfl, lb, rfl⟩ ?_
    refine G.step (rd_lss (k := .i64) (by decide)) ⟨rfl, rfl⟩ ?_
    refine G.step (rd_move (s := .b _) (by decide)) rfl ?_
    refine G.step (rd_guard (ts := []) (rd_loadV (s := .i _) (by decide) sc3) rfl rfl rfl (by decide) (by decide)) ⟨rfl, trivial, fun hg => ⟨rfl, rfl, lb, rfl⟩⟩ ?_
    refine G.step (rd_guard (ts := [22]) (rd_gtr (k := .i64) (by decide)) rfl rfl rfl (by decide) (by decide)) ⟨rfl, ⟨fun h => by first | exact h | simp_all, trivial⟩, fun hg => ⟨rfl, rfl⟩⟩ ?_
    refine G.step (rd_pickOr (by decide)) ⟨rfl, rfl, fun hp => by first | (rw [hp]; rfl) | simp_all⟩ ?_
    refine G.done ?_
    refine W.cond (t := _) rfl (fun h1 => ?_) (fun h1 => ?_)
    · (try simp only [Bool.and_eq_true, Bool.or_eq_true, Bool.not_eq_true', Bool.not_eq_false', Bool.and_eq_false_iff, Bool.or_eq_false_iff, decide_eq_true_eq, decide_eq_false_iff_not, beq_iff_eq, bne_iff_ne, Bool.not_true, Bool.not_false, Bool.not_not, beq_eq_false_iff_ne] at h1)
      refine W.seq ?_
      refine W.region ?_
      refine G.step (rd_nilS (cell := cellI) (d0 := 0) (k := 1) (by decide)) trivial ?_
      refine G.step (rd_assign (s := .i _) (by decide)) rfl ?_
      refine G.done ?_
      refine W.ret (RetQ.mk (ss := [slOf _ _ _ _, .i _]) ⟨rfl, rfl, trivial⟩ ?_ rfl)
      (unfold sharesI; rw [if_neg (by omega), if_pos (by omega)]; rfl)
    · (try simp only [Bool.and_eq_true, Bool.or_eq_true, Bool.not_eq_true', Bool.not_eq_false', Bool.and_eq_false_iff, Bool.or_eq_false_iff, decide_eq_true_eq, decide_eq_false_iff_not, beq_iff_eq, bne_iff_ne, Bool.not_true, Bool.not_false, Bool.not_not, beq_eq_false_iff_ne] at h1)
      refine W.skip ?_
      refine W.seq ?_
      refine W.region ?_
      refine G.step (rd_alloc (b := 6) (cs := [.val (.int .i64 0)]) (by decide) ze3 (⟨.inl ⟨rfl, rfl⟩, trivial⟩)) rfl ?_
      refine G.step (rd_storeV (s := .i _) sz3) ⟨rfl, rfl, rfl, lb, rfl⟩ ?_
      refine G.done ?_
      refine W.seq ?_
      refine W.seq ?_
      refine W.region ?_
      refine G.step (rd_loadV (s := slOf _ _ _ _) (by decide) sc22) ⟨rfl, rfl, lb, rfl⟩ ?_
      refine G.step (rd_len (by decide) Try.underlying22) rfl ?_
      refine G.step (rd_move (s := .i _) (by decide)) rfl ?_
      refine G.done ?_
      refine W.block ?_
      refine W.loop (α := Int) (fun i => mkSt [(2, .ptr 2 0), (3, .ptr 3 0), (6, .ptr 6 0), (25, ints w), (26, .i w.length), (27, .i i)] [(2, 3, [.i t]), (3, 22, [ints w]), (6, 3, [.i (sumTo w i)])] []) (fun i => (0 ≤ i ∧ i ≤ w.length) ∧ (0 ≤ sumTo w i ∧ sumTo w i ≤ 1048576 * i) ∧ ∀ x ∈ w.take i.toNat, 0 ≤ x ∧ x ≤ 1048576) (fun i => (w.length - i).toNat) 0 (by exact Le.mk id ⟨⟨(by first | rfl | (rw [sumTo_step (by omega) (by omega)]; rfl)), rfl⟩, ⟨(by first | rfl | (rw [sumTo_step (by omega) (by omega)]; rfl)), rfl⟩, ⟨(by first | rfl | (rw [sumTo_step (by omega) (by omega)]; rfl)), rfl⟩, ⟨(by first | rfl | (rw [sumTo_step (by omega) (by omega)]; rfl)), rfl⟩, ⟨(by first | rfl | (rw [sumTo_step (by omega) (by omega)]; rfl)), rfl⟩, ⟨(by first | rfl | (rw [sumTo_step (by omega) (by omega)]; rfl)), rfl⟩, trivial⟩ ⟨⟨_, rfl, rfl, ⟨⟨(by first | rfl | (rw [sumTo_step (by omega) (by omega)]; rfl)), rfl⟩, trivial⟩⟩, ⟨_, rfl, rfl, ⟨⟨(by first | rfl | (rw [sumTo_step (by omega) (by omega)]; rfl)), rfl⟩, trivial⟩⟩, ⟨_, rfl, rfl, ⟨⟨(by first | rfl | (rw [sumTo_step (by omega) (by omega)]; rfl)), rfl⟩, trivial⟩⟩, trivial⟩ trivial rfl PinOk.none) (⟨by omega, by simp [sumTo], by simp⟩) (fun i hp => ?_)
      obtain ⟨hp1, hp2, hp3⟩ := id hp
      refine W.seq ?_
      refine W.region ?_
      refine G.step (rd_lss (k := .i64) (by decide)) ⟨rfl, rfl⟩ ?_
      refine G.done ?_
      refine W.seq ?_
      refine W.cond (t := _) rfl (fun h2 => ?_) (fun h2 => ?_)
      · (try simp only [Bool.and_eq_true, Bool.or_eq_true, Bool.not_eq_true', Bool.not_eq_false', Bool.and_eq_false_iff, Bool.or_eq_false_iff, decide_eq_true_eq, decide_eq_false_iff_not, beq_iff_eq, bne_iff_ne, Bool.not_true, Bool.not_false, Bool.not_not, beq_eq_false_iff_ne] at h2)
        refine W.skip ?_
        refine W.seq ?_
        refine W.block ?_
        refine W.seq ?_
        refine W.region ?_
        refine G.step (rd_index (kd := .i64) (by decide) el22) ⟨rfl, rfl, (by first | omega | (simp_all; done) | (simp_all; omega))⟩ ?_
        refine G.step (rd_loadE (s := .i _) (by decide) sc3) ⟨rfl, lb, rfl⟩ ?_
        refine G.step (rd_assign (s := .i _) (by decide)) rfl ?_
        refine G.done ?_
        refine W.seq ?_
        refine W.seq ?_
        refine W.region ?_
        refine G.step (rd_move (s := .i _) (by decide)) rfl ?_
        refine G.step (rd_lss (k := .i64) (by decide)) ⟨rfl, rfl⟩ ?_
        refine G.step (rd_move (s := .b _) (by decide)) rfl ?_
        refine G.step (rd_guard (ts := []) (rd_move (s := .i _) (by decide)) rfl rfl rfl (by decide) (by decide)) ⟨rfl, trivial, fun hg => rfl⟩ ?_
        refine G.step (rd_guard (ts := [34]) (rd_gtr (k := .i64) (by decide)) rfl rfl rfl (by decide) (by decide)) ⟨rfl, ⟨fun h => by first | exact h | simp_all, trivial⟩, fun hg => ⟨rfl, rfl⟩⟩ ?_
        refine G.step (rd_pickOr (by decide)) ⟨rfl, rfl, fun hp => by first | (rw [hp]; rfl) | simp_all⟩ ?_
        refine G.done ?_
        refine W.cond (t := _) rfl (fun h3 => ?_) (fun h3 => ?_)
        · (try simp only [Bool.and_eq_true, Bool.or_eq_true, Bool.not_eq_true', Bool.not_eq_false', Bool.and_eq_false_iff, Bool.or_eq_false_iff, decide_eq_true_eq, decide_eq_false_iff_not, beq_iff_eq, bne_iff_ne, Bool.not_true, Bool.not_false, Bool.not_not, beq_eq_false_iff_ne] at h3)
          refine W.seq ?_
          refine W.region ?_
          refine G.step (rd_nilS (cell := cellI) (d0 := 0) (k := 1) (by decide)) trivial ?_
          refine G.step (rd_assign (s := .i _) (by decide)) rfl ?_
          refine G.done ?_
          refine W.ret (RetQ.mk (ss := [slOf _ _ _ _, .i _]) ⟨rfl, rfl, trivial⟩ ?_ rfl)
          (have hb := badW_of (show i.toNat < w.length by omega) h3; unfold sharesI; rw [if_neg (by omega), if_neg (by omega), if_pos hb]; rfl)
        · (try simp only [Bool.and_eq_true, Bool.or_eq_true, Bool.not_eq_true', Bool.not_eq_false', Bool.and_eq_false_iff, Bool.or_eq_false_iff, decide_eq_true_eq, decide_eq_false_iff_not, beq_iff_eq, bne_iff_ne, Bool.not_true, Bool.not_false, Bool.not_not, beq_eq_false_iff_ne] at h3)
          refine W.skip ?_
          refine W.region ?_
          refine G.step (rd_loadV (s := .i _) (by decide) sc3) ⟨rfl, rfl, lb, rfl⟩ ?_
          refine G.step (rd_move (s := .i _) (by decide)) rfl ?_
          refine G.step (rd_add (by decide)) ⟨rfl, rfl, (by first | omega | (simp_all; done) | (simp_all; omega))⟩ ?_
          refine G.step (rd_storeV (s := .i _) sz3) ⟨rfl, rfl, rfl, lb, rfl⟩ ?_
          refine G.done ?_
          refine W.region ?_
          refine G.step (rd_add (by decide)) ⟨rfl, rfl, (by first | omega | (simp_all; done) | (simp_all; omega))⟩ ?_
          refine G.step (rd_move (s := .i _) (by decide)) rfl ?_
          refine G.done ?_
          refine Exists.intro (w := i + 1) ⟨⟨by omega, by { have := sumTo_step hp1.1 h2; omega }, by { rw [take_succ' hp1.1 h2]; intro x hx; rcases List.mem_append.1 hx with hx | hx; exact hp3 x hx; obtain rfl := List.mem_singleton.1 hx; omega }⟩, (by omega), (by exact Le.mk id ⟨⟨(by first | rfl | (rw [sumTo_step (by omega) (by omega)]; rfl)), rfl⟩, ⟨(by first | rfl | (rw [sumTo_step (by omega) (by omega)]; rfl)), rfl⟩, ⟨(by first | rfl | (rw [sumTo_step (by omega) (by omega)]; rfl)), rfl⟩, ⟨(by first | rfl | (rw [sumTo_step (by omega) (by omega)]; rfl)), rfl⟩, ⟨(by first | rfl | (rw [sumTo_step (by omega) (by omega)]; rfl)), rfl⟩, ⟨(by first | rfl | (rw [sumTo_step (by omega) (by omega)]; rfl)), rfl⟩, trivial⟩ ⟨⟨_, rfl, rfl, ⟨⟨(by first | rfl | (rw [sumTo_step (by omega) (by omega)]; rfl)), rfl⟩, trivial⟩⟩, ⟨_, rfl, rfl, ⟨⟨(by first | rfl | (rw [sumTo_step (by omega) (by omega)]; rfl)), rfl⟩, trivial⟩⟩, ⟨_, rfl, rfl, ⟨⟨(by first | rfl | (rw [sumTo_step (by omega) (by omega)]; rfl)), rfl⟩, trivial⟩⟩, trivial⟩ trivial rfl PinOk.none)⟩
      · (try simp only [Bool.and_eq_true, Bool.or_eq_true, Bool.not_eq_true', Bool.not_eq_false', Bool.and_eq_false_iff, Bool.or_eq_false_iff, decide_eq_true_eq, decide_eq_false_iff_not, beq_iff_eq, bne_iff_ne, Bool.not_true, Bool.not_false, Bool.not_not, beq_eq_false_iff_ne] at h2)
        obtain rfl : i = (w.length : Int) := by omega
        have hwt : ∀ x ∈ w, 0 ≤ x ∧ x ≤ 1048576 := by simpa using hp3
        refine W.exit ?_
        refine W.seq ?_
        refine W.seq ?_
        refine W.region ?_
        refine G.step (rd_loadV (s := .i _) (by decide) sc3) ⟨rfl, rfl, lb, rfl⟩ ?_
        refine G.step (rd_eql (k := .i64) (by decide)) ⟨rfl, rfl⟩ ?_
        refine G.done ?_
        refine W.cond (t := _) rfl (fun h4 => ?_) (fun h4 => ?_)
        · (try simp only [Bool.and_eq_true, Bool.or_eq_true, Bool.not_eq_true', Bool.not_eq_false', Bool.and_eq_false_iff, Bool.or_eq_false_iff, decide_eq_true_eq, decide_eq_false_iff_not, beq_iff_eq, bne_iff_ne, Bool.not_true, Bool.not_false, Bool.not_not, beq_eq_false_iff_ne] at h4)
          refine W.seq ?_
          refine W.region ?_
          refine G.step (rd_nilS (cell := cellI) (d0 := 0) (k := 1) (by decide)) trivial ?_
          refine G.step (rd_assign (s := .i _) (by decide)) rfl ?_
          refine G.done ?_
          refine W.ret (RetQ.mk (ss := [slOf _ _ _ _, .i _]) ⟨rfl, rfl, trivial⟩ ?_ rfl)
          (unfold sharesI; rw [if_neg (by omega), if_neg (by omega), if_neg (badW_not hwt), if_pos h4]; rfl)
        · (try simp only [Bool.and_eq_true, Bool.or_eq_true, Bool.not_eq_true', Bool.not_eq_false', Bool.and_eq_false_iff, Bool.or_eq_false_iff, decide_eq_true_eq, decide_eq_false_iff_not, beq_iff_eq, bne_iff_ne, Bool.not_true, Bool.not_false, Bool.not_not, beq_eq_false_iff_ne] at h4)
          have hsw : 0 < sumTo w w.length := by omega
          refine W.skip ?_
          refine W.seq ?_
          refine W.drawn mx ?_
          refine G.step (rd_loadV (s := slOf _ _ _ _) (by decide) sc22) ⟨rfl, rfl, lb, rfl⟩ ?_
          refine G.step (rd_len (by decide) Try.underlying22) rfl ?_
          refine G.step (rd_makeO (cell := cellI) (d0 := 0) (z0 := 0) (by decide) Try.underlying22 ie3 ⟨rfl, trivial⟩ (by first | rfl | simp [Value.cells, Value.oneCell'])) ⟨rfl, rfl, rfl, (by first | omega | (simp_all; done) | (simp_all; omega))⟩ ?_
          refine G.step (rd_loadV (s := slOf _ _ _ _) (by decide) sc22) ⟨rfl, rfl, lb, rfl⟩ ?_
          refine G.step (rd_len (by decide) Try.underlying22) rfl ?_
          refine G.step (rd_makeO (cell := cellI) (d0 := 0) (z0 := 0) (by decide) Try.underlying22 ie3 ⟨rfl, trivial⟩ (by first | rfl | simp [Value.cells, Value.oneCell'])) ⟨rfl, rfl, rfl, (by first | omega | (simp_all; done) | (simp_all; omega))⟩ ?_
          refine G.step (rd_assign (s := .own _) (by decide)) rfl ?_
          refine G.step (rd_assign (s := .own _) (by decide)) rfl ?_
          refine G.drawn (by kernel_rfl) ?_
          refine W.seq ?_
          refine W.region ?_
          refine G.step (rd_loadV (s := .i _) (by decide) sc3) ⟨rfl, rfl, lb, rfl⟩ ?_
          refine G.step (rd_assign (s := .i _) (by decide)) rfl ?_
          refine G.done ?_
          refine W.seq ?_
          refine W.seq ?_
          refine W.region ?_
          refine G.step (rd_loadV (s := slOf _ _ _ _) (by decide) sc22) ⟨rfl, rfl, lb, rfl⟩ ?_
          refine G.step (rd_len (by decide) Try.underlying22) rfl ?_
          refine G.step (rd_move (s := .i _) (by decide)) rfl ?_
          refine G.done ?_
          refine W.block ?_
          refine W.loop (α := Int) (fun j => mkSt [(2, .ptr 2 0), (3, .ptr 3 0), (6, .ptr 6 0), (9, .own 45), (10, .own 48), (11, .i (leftTo t (sumTo w w.length) w j)), (50, ints w), (51, .i w.length), (52, .i j)] [(2, 3, [.i t]), (3, 22, [ints w]), (6, 3, [.i (sumTo w w.length)])] [(45, arrOf 3 1 cellI 0 (partTo t (sumTo w w.length) w j)), (48, arrOf 3 1 cellI 0 (ordTo w j))]) (fun j => (0 ≤ j ∧ j ≤ w.length) ∧ (0 ≤ leftTo t (sumTo w w.length) w j ∧ leftTo t (sumTo w w.length) w j ≤ t)) (fun j => (w.length - j).toNat) 0 (by exact Le.mk id ⟨⟨(by first | rfl | (rw [leftTo_step hq1.1 h5, partTo_get hq1.1 h5]; rfl) | (rw [leftTo_zero]; rfl)), rfl⟩, ⟨(by first | rfl | (rw [leftTo_step hq1.1 h5, partTo_get hq1.1 h5]; rfl) | (rw [leftTo_zero]; rfl)), rfl⟩, ⟨(by first | rfl | (rw [leftTo_step hq1.1 h5, partTo_get hq1.1 h5]; rfl) | (rw [leftTo_zero]; rfl)), rfl⟩, ⟨(by first | rfl | (rw [leftTo_step hq1.1 h5, partTo_get hq1.1 h5]; rfl) | (rw [leftTo_zero]; rfl)), rfl⟩, ⟨(by first | rfl | (rw [leftTo_step hq1.1 h5, partTo_get hq1.1 h5]; rfl) | (rw [leftTo_zero]; rfl)), rfl⟩, ⟨(by first | rfl | (rw [leftTo_step hq1.1 h5, partTo_get hq1.1 h5]; rfl) | (rw [leftTo_zero]; rfl)), rfl⟩, ⟨(by first | rfl | (rw [leftTo_step hq1.1 h5, partTo_get hq1.1 h5]; rfl) | (rw [leftTo_zero]; rfl)), rfl⟩, ⟨(by first | rfl | (rw [leftTo_step hq1.1 h5, partTo_get hq1.1 h5]; rfl) | (rw [leftTo_zero]; rfl)), rfl⟩, ⟨(by first | rfl | (rw [leftTo_step hq1.1 h5, partTo_get hq1.1 h5]; rfl) | (rw [leftTo_zero]; rfl)), rfl⟩, trivial⟩ ⟨⟨_, rfl, rfl, ⟨⟨(by first | rfl | (rw [leftTo_step hq1.1 h5, partTo_get hq1.1 h5]; rfl) | (rw [leftTo_zero]; rfl)), rfl⟩, trivial⟩⟩, ⟨_, rfl, rfl, ⟨⟨(by first | rfl | (rw [leftTo_step hq1.1 h5, partTo_get hq1.1 h5]; rfl) | (rw [leftTo_zero]; rfl)), rfl⟩, trivial⟩⟩, ⟨_, rfl, rfl, ⟨⟨(by first | rfl | (rw [leftTo_step hq1.1 h5, partTo_get hq1.1 h5]; rfl) | (rw [leftTo_zero]; rfl)), rfl⟩, trivial⟩⟩, trivial⟩ ⟨(by first | rfl | exact arrs_eq rfl (by rw [partTo_step hq1.1 h5]) | exact arrs_eq rfl (by simp [partTo])), (by first | rfl | exact arrs_eq rfl (by rw [ordTo_step hq1.1 h5]) | exact arrs_eq rfl (by simp [ordTo])), trivial⟩ rfl PinOk.none) (⟨by omega, leftTo_bd (by omega) hwt hsw _⟩) (fun j hp => ?_)
          obtain ⟨hq1, hq2⟩ := id hp; have hlp : (partTo t (sumTo w w.length) w j).length = w.length := partTo_len hq1.2; have hlo : (ordTo w j).length = w.length := ordTo_len hq1.2
          refine W.seq ?_
          refine W.region ?_
          refine G.step (rd_lss (k := .i64) (by decide)) ⟨rfl, rfl⟩ ?_
          refine G.done ?_
          refine W.seq ?_
          refine W.cond (t := _) rfl (fun h5 => ?_) (fun h5 => ?_)
          · (try simp only [Bool.and_eq_true, Bool.or_eq_true, Bool.not_eq_true', Bool.not_eq_false', Bool.and_eq_false_iff, Bool.or_eq_false_iff, decide_eq_true_eq, decide_eq_false_iff_not, beq_iff_eq, bne_iff_ne, Bool.not_true, Bool.not_false, Bool.not_not, beq_eq_false_iff_ne] at h5)
            have g1 := prod_bd (t := t) (by omega) (getD_bd hwt j.toNat)
            have g2 := leftTo_bd (t := t) (by omega) hwt hsw (j + 1)
            have g3 := leftTo_step (t := t) (s := sumTo w w.length) hq1.1 h5
            have g4 := partTo_get (t := t) (s := sumTo w w.length) hq1.1 h5
            refine W.skip ?_
            refine W.seq ?_
            refine W.block ?_
            refine W.seq ?_
            refine W.region ?_
            refine G.step (rd_move (s := .i _) (by decide)) rfl ?_
            refine G.step (rd_index (kd := .i64) (by decide) el22) ⟨rfl, rfl, (by first | omega | (simp_all; done) | (simp_all; omega))⟩ ?_
            refine G.step (rd_loadE (s := .i _) (by decide) sc3) ⟨rfl, lb, rfl⟩ ?_
            refine G.step (rd_assign (s := .i _) (by decide)) rfl ?_
            refine G.step (rd_assign (s := .i _) (by decide)) rfl ?_
            refine G.done ?_
            refine W.seq ?_
            refine W.region ?_
            refine G.step (rd_move (s := .own _) (by decide)) rfl ?_
            refine G.step (rd_move (s := .i _) (by decide)) rfl ?_
            refine G.step (rd_move (s := .own _) (by decide)) rfl ?_
            refine G.step (rd_move (s := .i _) (by decide)) rfl ?_
            refine G.step (rd_loadV (s := .i _) (by decide) sc3) ⟨rfl, rfl, lb, rfl⟩ ?_
            refine G.step (rd_move (s := .i _) (by decide)) rfl ?_
            refine G.step (rd_mul (by decide)) ⟨rfl, rfl, (by first | omega | (simp_all; done) | (simp_all; omega))⟩ ?_
            refine G.step (rd_loadV (s := .i _) (by decide) sc3) ⟨rfl, rfl, lb, rfl⟩ ?_
            refine G.step (rd_quoN (by decide)) ⟨rfl, rfl, (by first | omega | (simp_all; done) | (simp_all; omega))⟩ ?_
            refine G.step (rd_move (s := .i _) (by decide)) rfl ?_
            refine G.step (rd_indexO (kd := .i64) (by decide) el22) ⟨rfl, rfl, rfl, (by first | omega | (simp only [arrOf, List.length_set, List.length_append, List.length_cons, List.length_nil, List.length_replicate]; omega) | (simp_all [arrOf]; done) | (simp_all [arrOf]; omega))⟩ ?_
            refine G.step (rd_storeA (s := .i _) _ sz3) ⟨rfl, rfl, rfl, rfl, rfl, (by first | omega | (simp only [arrOf, List.length_set, List.length_append, List.length_cons, List.length_nil, List.length_replicate]; omega) | (simp_all [arrOf]; done) | (simp_all [arrOf]; omega)), lb, ⟨rfl, trivial⟩⟩ ?_
            refine G.step (rd_indexO (kd := .i64) (by decide) el22) ⟨rfl, rfl, rfl, (by first | omega | (simp only [arrOf, List.length_set, List.length_append, List.length_cons, List.length_nil, List.length_replicate]; omega) | (simp_all [arrOf]; done) | (simp_all [arrOf]; omega))⟩ ?_
            refine G.step (rd_storeA (s := .i _) _ sz3) ⟨rfl, rfl, rfl, rfl, rfl, (by first | omega | (simp only [arrOf, List.length_set, List.length_append, List.length_cons, List.length_nil, List.length_replicate]; omega) | (simp_all [arrOf]; done) | (simp_all [arrOf]; omega)), lb, ⟨rfl, trivial⟩⟩ ?_
            refine G.done ?_
            refine W.region ?_
            refine G.step (rd_move (s := .i _) (by decide)) rfl ?_
            refine G.step (rd_move (s := .own _) (by decide)) rfl ?_
            refine G.step (rd_move (s := .i _) (by decide)) rfl ?_
            refine G.step (rd_indexO (kd := .i64) (by decide) el22) ⟨rfl, rfl, rfl, (by first | omega | (simp only [arrOf, List.length_set, List.length_append, List.length_cons, List.length_nil, List.length_replicate]; omega) | (simp_all [arrOf]; done) | (simp_all [arrOf]; omega))⟩ ?_
            refine G.step (rd_loadA (s := .i _) (by decide) sc3) ⟨rfl, rfl, rfl, (by first | omega | (simp only [arrOf, List.length_set, List.length_append, List.length_cons, List.length_nil, List.length_replicate]; omega) | (simp_all [arrOf]; done) | (simp_all [arrOf]; omega)), lb, rfl⟩ ?_
            refine G.step (rd_sub (by decide)) ⟨rfl, rfl, (by first | omega | (simp_all; done) | (simp_all; omega))⟩ ?_
            refine G.step (rd_assign (s := .i _) (by decide)) rfl ?_
            refine G.done ?_
            refine W.region ?_
            refine G.step (rd_add (by decide)) ⟨rfl, rfl, (by first | omega | (simp_all; done) | (simp_all; omega))⟩ ?_
            refine G.step (rd_move (s := .i _) (by decide)) rfl ?_
            refine G.done ?_
            refine Exists.intro (w := j + 1) ⟨⟨by omega, leftTo_bd (by omega) hwt hsw _⟩, (by omega), (by exact Le.mk id ⟨⟨(by first | rfl | (rw [leftTo_step hq1.1 h5, partTo_get hq1.1 h5]; rfl) | (rw [leftTo_zero]; rfl)), rfl⟩, ⟨(by first | rfl | (rw [leftTo_step hq1.1 h5, partTo_get hq1.1 h5]; rfl) | (rw [leftTo_zero]; rfl)), rfl⟩, ⟨(by first | rfl | (rw [leftTo_step hq1.1 h5, partTo_get hq1.1 h5]; rfl) | (rw [leftTo_zero]; rfl)), rfl⟩, ⟨(by first | rfl | (rw [leftTo_step hq1.1 h5, partTo_get hq1.1 h5]; rfl) | (rw [leftTo_zero]; rfl)), rfl⟩, ⟨(by first | rfl | (rw [leftTo_step hq1.1 h5, partTo_get hq1.1 h5]; rfl) | (rw [leftTo_zero]; rfl)), rfl⟩, ⟨(by first | rfl | (rw [leftTo_step hq1.1 h5, partTo_get hq1.1 h5]; rfl) | (rw [leftTo_zero]; rfl)), rfl⟩, ⟨(by first | rfl | (rw [leftTo_step hq1.1 h5, partTo_get hq1.1 h5]; rfl) | (rw [leftTo_zero]; rfl)), rfl⟩, ⟨(by first | rfl | (rw [leftTo_step hq1.1 h5, partTo_get hq1.1 h5]; rfl) | (rw [leftTo_zero]; rfl)), rfl⟩, ⟨(by first | rfl | (rw [leftTo_step hq1.1 h5, partTo_get hq1.1 h5]; rfl) | (rw [leftTo_zero]; rfl)), rfl⟩, trivial⟩ ⟨⟨_, rfl, rfl, ⟨⟨(by first | rfl | (rw [leftTo_step hq1.1 h5, partTo_get hq1.1 h5]; rfl) | (rw [leftTo_zero]; rfl)), rfl⟩, trivial⟩⟩, ⟨_, rfl, rfl, ⟨⟨(by first | rfl | (rw [leftTo_step hq1.1 h5, partTo_get hq1.1 h5]; rfl) | (rw [leftTo_zero]; rfl)), rfl⟩, trivial⟩⟩, ⟨_, rfl, rfl, ⟨⟨(by first | rfl | (rw [leftTo_step hq1.1 h5, partTo_get hq1.1 h5]; rfl) | (rw [leftTo_zero]; rfl)), rfl⟩, trivial⟩⟩, trivial⟩ ⟨(by first | rfl | exact arrs_eq rfl (by rw [partTo_step hq1.1 h5]) | exact arrs_eq rfl (by simp [partTo])), (by first | rfl | exact arrs_eq rfl (by rw [ordTo_step hq1.1 h5]) | exact arrs_eq rfl (by simp [ordTo])), trivial⟩ rfl PinOk.none)⟩
          · (try simp only [Bool.and_eq_true, Bool.or_eq_true, Bool.not_eq_true', Bool.not_eq_false', Bool.and_eq_false_iff, Bool.or_eq_false_iff, decide_eq_true_eq, decide_eq_false_iff_not, beq_iff_eq, bne_iff_ne, Bool.not_true, Bool.not_false, Bool.not_not, beq_eq_false_iff_ne] at h5)
            obtain rfl : j = (w.length : Int) := by omega
            have hll := leftTo_le (t := t) hsw
            have hsl := (sorted_dom (t := t) (s := sumTo w w.length) (w := w) (by omega)).2
            have hsl2 : (insAll (shareC t (sumTo w w.length) w) 0 (((ordTo w w.length).length : Int) - (0 + 1)).toNat (0 + 1 : Int).toNat (ordTo w w.length)).length = w.length := hsl
            refine W.exit ?_
            refine W.seq ?_
            refine W.region ?_
            refine G.step (rd_move (s := .own _) (by decide)) rfl ?_
            refine G.step (rd_makeFunc (xs := [.tmp 2, .tmp 3, .tmp 6]) (ss := [.ptr _ _, .ptr _ _, .ptr _ _]) (by decide)) ⟨rfl, rfl, rfl, trivial⟩ ?_
            refine G.step (rd_callSC (xs := []) [] [.ptr 2 0, .ptr 3 0, .ptr 6 0] [.i _, slOf _ _ _ _, .i _] (by decide) (sortStable_ok (shareC t (sumTo w w.length) w) (fun i => 0 ≤ i ∧ i < w.length) (ordTo w w.length) (by rw [ordTo_len (by omega)]; exact h20) (ordTo_dom w) (fun x y _ _ => shareC_bd _ _ _ x y)) (flat_ints _) (by rintro us r ⟨i, k, rfl, hi, hk, rfl⟩; exact shareCmp_ok t (sumTo w w.length) w (by omega) (by omega) hwt i k hi hk) (fnOk_of Try.func45 rfl nm45)) ⟨rfl, rfl, trivial, rfl, ⟨⟨_, _, rfl, rfl, rfl, rfl⟩, ⟨_, _, rfl, rfl, rfl, rfl⟩, ⟨_, _, rfl, rfl, rfl, rfl⟩, trivial⟩⟩ ?_
            refine G.done ?_
            refine W.seq ?_
            refine W.seq ?_
            refine W.le (Le.freeze 48 [10] rfl ⟨rfl, trivial⟩) ?_
            refine W.region ?_
            refine G.step (rd_move (s := slOf _ _ _ _) (by decide)) rfl ?_
            refine G.step (rd_move (s := .i _) (by decide)) rfl ?_
            refine G.step (rd_sliceTo (kd := .i64) (by decide) el22) ⟨rfl, rfl, (by first | omega | (simp_all; done) | (simp_all; omega))⟩ ?_
            refine G.step (rd_len (by decide) Try.underlying22) rfl ?_
            refine G.step (rd_move (s := .i _) (by decide)) rfl ?_
            refine G.done ?_
            refine W.block ?_
            refine W.loop (α := Int) (fun q => mkSt [(9, .own 45), (81, ints ((sortedI t (sumTo w w.length) w).take (leftTo t (sumTo w w.length) w w.length).toNat)), (82, .i ((sortedI t (sumTo w w.length) w).take (leftTo t (sumTo w w.length) w w.length).toNat).length), (83, .i q)] [] [(45, arrOf 3 1 cellI 0 (incAll (partTo t (sumTo w w.length) w w.length) (((sortedI t (sumTo w w.length) w).take (leftTo t (sumTo w w.length) w w.length).toNat).take q.toNat)))]) (fun q => (0 ≤ q ∧ q ≤ ((sortedI t (sumTo w w.length) w).take (leftTo t (sumTo w w.length) w w.length).toNat).length)) (fun q => (((sortedI t (sumTo w w.length) w).take (leftTo t (sumTo w w.length) w w.length).toNat).length - q).toNat) 0 (by exact Le.mk id ⟨⟨(by first | rfl | (simp; done) | (congr 2; omega)), rfl⟩, ⟨(by first | rfl | (simp; done) | (congr 2; omega)), rfl⟩, ⟨(by first | rfl | (simp; done) | (congr 2; omega)), rfl⟩, ⟨(by first | rfl | (simp; done) | (congr 2; omega)), rfl⟩, trivial⟩ trivial ⟨(by first | rfl | exact arrs_eq rfl (by rw [take_succ' hp.1 h6, incAll_snoc]) | exact arrs_eq rfl (by simp [incAll])), trivial⟩ rfl PinOk.none) ((by omega)) (fun q hp => ?_)
            refine W.seq ?_
            refine W.region ?_
            refine G.step (rd_lss (k := .i64) (by decide)) ⟨rfl, rfl⟩ ?_
            refine G.done ?_
            refine W.seq ?_
            refine W.cond (t := _) rfl (fun h6 => ?_) (fun h6 => ?_)
            · (try simp only [Bool.and_eq_true, Bool.or_eq_true, Bool.not_eq_true', Bool.not_eq_false', Bool.and_eq_false_iff, Bool.or_eq_false_iff, decide_eq_true_eq, decide_eq_false_iff_not, beq_iff_eq, bne_iff_ne, Bool.not_true, Bool.not_false, Bool.not_not, beq_eq_false_iff_ne] at h6)
              have hk : 0 ≤ ((sortedI t (sumTo w w.length) w).take (leftTo t (sumTo w w.length) w w.length).toNat).getD q.toNat 0 ∧ ((sortedI t (sumTo w w.length) w).take (leftTo t (sumTo w w.length) w w.length).toNat).getD q.toNat 0 < w.length := (sorted_dom (by omega)).1 _ (List.mem_of_mem_take (getD_mem (by omega)))
              have hlen : (incAll (partTo t (sumTo w w.length) w w.length) (((sortedI t (sumTo w w.length) w).take (leftTo t (sumTo w w.length) w w.length).toNat).take q.toNat)).length = w.length := by rw [incAll_len, partTo_len (by omega)]
              have hval : 0 ≤ (incAll (partTo t (sumTo w w.length) w w.length) (((sortedI t (sumTo w w.length) w).take (leftTo t (sumTo w w.length) w w.length).toNat).take q.toNat)).getD (((sortedI t (sumTo w w.length) w).take (leftTo t (sumTo w w.length) w w.length).toNat).getD q.toNat 0).toNat 0 ∧ (incAll (partTo t (sumTo w w.length) w w.length) (((sortedI t (sumTo w w.length) w).take (leftTo t (sumTo w w.length) w w.length).toNat).take q.toNat)).getD (((sortedI t (sumTo w w.length) w).take (leftTo t (sumTo w w.length) w w.length).toNat).getD q.toNat 0).toNat 0 ≤ 4611686018427387904 := by { have h9 := incAll_bd (B := 1152921504606846976) (((sortedI t (sumTo w w.length) w).take (leftTo t (sumTo w w.length) w w.length).toNat).take q.toNat) _ (partTo_bd (t := t) (s := (sumTo w w.length)) (w := w) (by omega) hsw hwt w.length) (by omega) _ (getD_mem (k := (((sortedI t (sumTo w w.length) w).take (leftTo t (sumTo w w.length) w w.length).toNat).getD q.toNat 0).toNat) (by omega)); have h10 : (((sortedI t (sumTo w w.length) w).take (leftTo t (sumTo w w.length) w w.length).toNat).take q.toNat).length ≤ 20 := by { have := (sorted_dom (t := t) (s := (sumTo w w.length)) (w := w) (by omega)).2; simp only [List.length_take]; omega }; omega }
              refine W.skip ?_
              refine W.seq ?_
              refine W.block ?_
              refine W.seq ?_
              refine W.region ?_
              refine G.step (rd_index (kd := .i64) (by decide) el22) ⟨rfl, rfl, (by first | omega | (simp_all; done) | (simp_all; omega))⟩ ?_
              refine G.step (rd_loadE (s := .i _) (by decide) sc3) ⟨rfl, lb, rfl⟩ ?_
              refine G.step (rd_assign (s := .i _) (by decide)) rfl ?_
              refine G.done ?_
              refine W.region ?_
              refine G.step (rd_move (s := .own _) (by decide)) rfl ?_
              refine G.step (rd_move (s := .i _) (by decide)) rfl ?_
              refine G.step (rd_indexO (kd := .i64) (by decide) el22) ⟨rfl, rfl, rfl, (by first | omega | (simp only [arrOf, List.length_set, List.length_append, List.length_cons, List.length_nil, List.length_replicate]; omega) | (simp_all [arrOf]; done) | (simp_all [arrOf]; omega))⟩ ?_
              refine G.step (rd_loadA (s := .i _) (by decide) sc3) ⟨rfl, rfl, rfl, (by first | omega | (simp only [arrOf, List.length_set, List.length_append, List.length_cons, List.length_nil, List.length_replicate]; omega) | (simp_all [arrOf]; done) | (simp_all [arrOf]; omega)), lb, rfl⟩ ?_
              refine G.step (rd_add (by decide)) ⟨rfl, rfl, (by first | omega | (simp_all; done) | (simp_all; omega))⟩ ?_
              refine G.step (rd_indexO (kd := .i64) (by decide) el22) ⟨rfl, rfl, rfl, (by first | omega | (simp only [arrOf, List.length_set, List.length_append, List.length_cons, List.length_nil, List.length_replicate]; omega) | (simp_all [arrOf]; done) | (simp_all [arrOf]; omega))⟩ ?_
              refine G.step (rd_storeA (s := .i _) _ sz3) ⟨rfl, rfl, rfl, rfl, rfl, (by first | omega | (simp only [arrOf, List.length_set, List.length_append, List.length_cons, List.length_nil, List.length_replicate]; omega) | (simp_all [arrOf]; done) | (simp_all [arrOf]; omega)), lb, ⟨rfl, trivial⟩⟩ ?_
              refine G.done ?_
              refine W.region ?_
              refine G.step (rd_add (by decide)) ⟨rfl, rfl, (by first | omega | (simp_all; done) | (simp_all; omega))⟩ ?_
              refine G.step (rd_move (s := .i _) (by decide)) rfl ?_
              refine G.done ?_
              refine Exists.intro (w := q + 1) ⟨(by omega), (by omega), (by exact Le.mk id ⟨⟨(by first | rfl | (simp; done) | (congr 2; omega)), rfl⟩, ⟨(by first | rfl | (simp; done) | (congr 2; omega)), rfl⟩, ⟨(by first | rfl | (simp; done) | (congr 2; omega)), rfl⟩, ⟨(by first | rfl | (simp; done) | (congr 2; omega)), rfl⟩, trivial⟩ trivial ⟨(by first | rfl | exact arrs_eq rfl (by rw [take_succ' hp.1 h6, incAll_snoc]) | exact arrs_eq rfl (by simp [incAll])), trivial⟩ rfl PinOk.none)⟩
            · (try simp only [Bool.and_eq_true, Bool.or_eq_true, Bool.not_eq_true', Bool.not_eq_false', Bool.and_eq_false_iff, Bool.or_eq_false_iff, decide_eq_true_eq, decide_eq_false_iff_not, beq_iff_eq, bne_iff_ne, Bool.not_true, Bool.not_false, Bool.not_not, beq_eq_false_iff_ne] at h6)
              refine W.exit ?_
              refine W.seq ?_
              refine W.le (Le.freeze 45 [9] rfl ⟨rfl, trivial⟩) ?_
              refine W.region ?_
              refine G.step (rd_move (s := slOf _ _ _ _) (by decide)) rfl ?_
              refine G.step (rd_assign (s := slOf _ _ _ _) (by decide)) rfl ?_
              refine G.step (rd_assign (s := .i _) (by decide)) rfl ?_
              refine G.done ?_
              refine W.ret (RetQ.mk (ss := [slOf _ _ _ _, .i _]) ⟨rfl, rfl, trivial⟩ ?_ rfl)
              (have e9 : ((sortedI t (sumTo w w.length) w).take (leftTo t (sumTo w w.length) w w.length).toNat).take q.toNat = (sortedI t (sumTo w w.length) w).take (leftTo t (sumTo w w.length) w w.length).toNat := List.take_of_length_le (by omega); unfold sharesI; rw [if_neg (by omega), if_neg (by omega), if_neg (badW_not hwt), if_neg h4, e9]; rfl)

theorem ints_ok (a b : List Int) (ha : (a.length : Int) ≤ 9223372036854775807) : FnC Try.prog 34 [ints a, ints b] (.b (decide (a = b))) := by
  refine FnC.intro 26 Try.func34 rfl nm34 rfl lb (fun w₀ F₀ => ?_)
  refine W.seq ?_
  refine W.region ?_
  refine G.step (rd_assign (s := .b _) (by decide)) rfl ?_
  refine G.done ?_
  refine W.seq ?_
  refine W.seq ?_
  refine W.region ?_
  refine G.step (rd_move (s := slOf _ _ _ _) (by decide)) rfl ?_
  refine G.step (rd_len (by decide) Try.underlying22) rfl ?_
  refine G.step (rd_move (s := slOf _ _ _ _) (by decide)) rfl ?_
  refine G.step (rd_len (by decide) Try.underlying22) rfl ?_
  refine G.step (rd_neq (k := .i64) (by decide)) ⟨rfl, rfl⟩ ?_
  refine G.done ?_
  refine W.cond (t := _) rfl (fun h0 => ?_) (fun h0 => ?_)
  · (try simp only [Bool.and_eq_true, Bool.or_eq_true, Bool.not_eq_true', Bool.not_eq_false', Bool.and_eq_false_iff, Bool.or_eq_false_iff, decide_eq_true_eq, decide_eq_false_iff_not, beq_iff_eq, bne_iff_ne, Bool.not_true, Bool.not_false, Bool.not_not, beq_eq_false_iff_ne] at h0)
    refine W.seq ?_
    refine W.region ?_
    refine G.step (rd_assign (s := .b _) (by decide)) rfl ?_
    refine G.done ?_
    refine W.ret (RetQ.mk (ss := [.b _]) ⟨rfl, trivial⟩ ?_ rfl)
    (have e : ¬ a = b := by { intro e; subst e; exact h0 rfl }); simp [e, resOf]
  · (try simp only [Bool.and_eq_true, Bool.or_eq_true, Bool.not_eq_true', Bool.not_eq_false', Bool.and_eq_false_iff, Bool.or_eq_false_iff, decide_eq_true_eq, decide_eq_false_iff_not, beq_iff_eq, bne_iff_ne, Bool.not_true, Bool.not_false, Bool.not_not, beq_eq_false_iff_ne] at h0)
    have hlen : a.length = b.length := by omega
    refine W.skip ?_
    refine W.seq ?_
    refine W.seq ?_
    refine W.region ?_
    refine G.step (rd_move (s := slOf _ _ _ _) (by decide)) rfl ?_
    refine G.step (rd_len (by decide) Try.underlying22) rfl ?_
    refine G.step (rd_move (s := .i _) (by decide)) rfl ?_
    refine G.done ?_
    refine W.block ?_
    refine W.loop (α := Int) (fun i => mkSt [(0, ints a), (1, ints b), (12, .i a.length), (13, .i i)] [] []) (fun i => (0 ≤ i ∧ i ≤ a.length) ∧ ∀ k : Nat, k < i.toNat → a.getD k 0 = b.getD k 0) (fun i => (a.length - i).toNat) 0 (by exact Le.mk id ⟨⟨(by first | rfl | (simp; done) | (congr 2; omega)), rfl⟩, ⟨(by first | rfl | (simp; done) | (congr 2; omega)), rfl⟩, ⟨(by first | rfl | (simp; done) | (congr 2; omega)), rfl⟩, ⟨(by first | rfl | (simp; done) | (congr 2; omega)), rfl⟩, trivial⟩ trivial trivial rfl PinOk.none) (⟨by omega, by intro k hk; omega⟩) (fun i hp => ?_)
    obtain ⟨hp1, hp2⟩ := id hp
    refine W.seq ?_
    refine W.region ?_
    refine G.step (rd_lss (k := .i64) (by decide)) ⟨rfl, rfl⟩ ?_
    refine G.done ?_
    refine W.seq ?_
    refine W.cond (t := _) rfl (fun h1 => ?_) (fun h1 => ?_)
    · (try simp only [Bool.and_eq_true, Bool.or_eq_true, Bool.not_eq_true', Bool.not_eq_false', Bool.and_eq_false_iff, Bool.or_eq_false_iff, decide_eq_true_eq, decide_eq_false_iff_not, beq_iff_eq, bne_iff_ne, Bool.not_true, Bool.not_false, Bool.not_not, beq_eq_false_iff_ne] at h1)
      refine W.skip ?_
      refine W.seq ?_
      refine W.block ?_
      refine W.seq ?_
      refine W.region ?_
      refine G.step (rd_move (s := .i _) (by decide)) rfl ?_
      refine G.step (rd_assign (s := .i _) (by decide)) rfl ?_
      refine G.done ?_
      refine W.seq ?_
      refine W.drawn mx ?_
      refine G.step (rd_move (s := slOf _ _ _ _) (by decide)) rfl ?_
      refine G.step (rd_move (s := .i _) (by decide)) rfl ?_
      refine G.step (rd_index (kd := .i64) (by decide) el22) ⟨rfl, rfl, (by first | omega | (simp_all; done) | (simp_all; omega))⟩ ?_
      refine G.step (rd_loadE (s := .i _) (by decide) sc3) ⟨rfl, lb, rfl⟩ ?_
      refine G.step (rd_move (s := slOf _ _ _ _) (by decide)) rfl ?_
      refine G.step (rd_move (s := .i _) (by decide)) rfl ?_
      refine G.step (rd_index (kd := .i64) (by decide) el22) ⟨rfl, rfl, (by first | omega | (simp_all; done) | (simp_all; omega))⟩ ?_
      refine G.step (rd_loadE (s := .i _) (by decide) sc3) ⟨rfl, lb, rfl⟩ ?_
      refine G.step (rd_neq (k := .i64) (by decide)) ⟨rfl, rfl⟩ ?_
      refine G.drawn (by kernel_rfl) ?_
      refine W.cond (t := _) rfl (fun h2 => ?_) (fun h2 => ?_)
      · (try simp only [Bool.and_eq_true, Bool.or_eq_true, Bool.not_eq_true', Bool.not_eq_false', Bool.and_eq_false_iff, Bool.or_eq_false_iff, decide_eq_true_eq, decide_eq_false_iff_not, beq_iff_eq, bne_iff_ne, Bool.not_true, Bool.not_false, Bool.not_not, beq_eq_false_iff_ne] at h2)
        refine W.seq ?_
        refine W.region ?_
        refine G.step (rd_assign (s := .b _) (by decide)) rfl ?_
        refine G.done ?_
        refine W.ret (RetQ.mk (ss := [.b _]) ⟨rfl, trivial⟩ ?_ rfl)
        (have e : ¬ a = b := by { intro e; subst e; exact h2 rfl }); simp [e, resOf]
      · (try simp only [Bool.and_eq_true, Bool.or_eq_true, Bool.not_eq_true', Bool.not_eq_false', Bool.and_eq_false_iff, Bool.or_eq_false_iff, decide_eq_true_eq, decide_eq_false_iff_not, beq_iff_eq, bne_iff_ne, Bool.not_true, Bool.not_false, Bool.not_not, beq_eq_false_iff_ne] at h2)
        refine W.skip ?_
        refine W.region ?_
        refine G.step (rd_add (by decide)) ⟨rfl, rfl, (by first | omega | (simp_all; done) | (simp_all; omega))⟩ ?_
        refine G.step (rd_move (s := .i _) (by decide)) rfl ?_
        refine G.done ?_
        refine Exists.intro (w := i + 1) ⟨⟨by omega, fun k hk => if e : k < i.toNat then hp.2 k e else by { rw [show k = i.toNat by omega]; exact h2 }⟩, (by omega), (by exact Le.mk id ⟨⟨(by first | rfl | (simp; done) | (congr 2; omega)), rfl⟩, ⟨(by first | rfl | (simp; done) | (congr 2; omega)), rfl⟩, ⟨(by first | rfl | (simp; done) | (congr 2; omega)), rfl⟩, ⟨(by first | rfl | (simp; done) | (congr 2; omega)), rfl⟩, trivial⟩ trivial trivial rfl PinOk.none)⟩
    · (try simp only [Bool.and_eq_true, Bool.or_eq_true, Bool.not_eq_true', Bool.not_eq_false', Bool.and_eq_false_iff, Bool.or_eq_false_iff, decide_eq_true_eq, decide_eq_false_iff_not, beq_iff_eq, bne_iff_ne, Bool.not_true, Bool.not_false, Bool.not_not, beq_eq_false_iff_ne] at h1)
      refine W.exit ?_
      refine W.seq ?_
      refine W.region ?_
      refine G.step (rd_assign (s := .b _) (by decide)) rfl ?_
      refine G.done ?_
      refine W.ret (RetQ.mk (ss := [.b _]) ⟨rfl, trivial⟩ ?_ rfl)
      (have e : a = b := list_eq_of hlen (fun k hk => hp.2 k (by omega)); simp [e, resOf])

theorem awake_ok  : FnC Try.prog 16 [] (.b true) := by
  refine FnC.intro 31 Try.func16 rfl nm16 rfl lb (fun w₀ F₀ => ?_)
  refine W.seq ?_
  refine W.region ?_
  refine G.step (rd_assign (s := .b _) (by decide)) rfl ?_
  refine G.done ?_
  refine W.seq ?_
  refine W.region ?_
  refine G.step (rd_buildSliceL (cell := cellI) (d0 := 0) (l := [_, _, _, _]) (zv := (.int .i64 0)) (xs := [.const (.int .i64 2), .const (.int .i64 0), .const (.int .i64 3), .const (.int .i64 3)]) (ss := [.i _, .i _, .i _, .i _]) (by decide) el22 ze3 rfl (by decide) rfl rfl) ⟨⟨rfl, rfl, rfl, rfl, trivial⟩, ⟨⟨rfl, trivial⟩, ⟨rfl, trivial⟩, ⟨rfl, trivial⟩, ⟨rfl, trivial⟩, trivial⟩, rfl, rfl, rfl⟩ ?_
  refine G.step (rd_call (xs := [.const (.int .i64 5), .tmp 4]) (by decide) ((shares_ok 5 [2, 0, 3, 3] (by decide)).res (res' := .tup [ints [1, 0, 2, 2], .i 0]) (by rw [shares_ex]))) ⟨⟨rfl, rfl, trivial⟩, rfl⟩ ?_
  refine G.step (rd_move (s := .tup [slOf _ _ _ _, .i _]) (by decide)) rfl ?_
  refine G.step (rd_extract (s := slOf _ _ _ _) (by decide)) ⟨rfl, rfl⟩ ?_
  refine G.step (rd_extract (s := .i _) (by decide)) ⟨rfl, rfl⟩ ?_
  refine G.step (rd_assign (s := slOf _ _ _ _) (by decide)) rfl ?_
  refine G.step (rd_assign (s := .i _) (by decide)) rfl ?_
  refine G.done ?_
  refine W.seq ?_
  refine W.region ?_
  refine G.step (rd_call (xs := [.const (.int .i64 (-7)), .const (.int .i64 2)]) (by decide) (down_ok (-7) 2)) ⟨⟨rfl, rfl, trivial⟩, rfl⟩ ?_
  refine G.step (rd_eql (k := .i64) (by decide)) ⟨rfl, rfl⟩ ?_
  refine G.step (rd_move (s := .b _) (by decide)) rfl ?_
  refine G.step (rd_guard (ts := []) (rd_call (xs := [.const (.int .i64 (-7)), .const (.int .i64 2)]) (by decide) (up_ok (-7) 2)) rfl rfl rfl (by decide) (by decide)) ⟨rfl, trivial, fun hg => ⟨⟨rfl, rfl, trivial⟩, rfl⟩⟩ ?_
  refine G.step (rd_guard (ts := [11]) (rd_eql (k := .i64) (by decide)) rfl rfl rfl (by decide) (by decide)) ⟨rfl, ⟨fun h => by first | exact h | simp_all, trivial⟩, fun hg => ⟨rfl, rfl⟩⟩ ?_
  refine G.step (rd_pickAnd (by decide)) ⟨rfl, rfl, fun hp => by first | (rw [hp]; rfl) | simp_all⟩ ?_
  refine G.step (rd_move (s := .b _) (by decide)) rfl ?_
  refine G.step (rd_guard (ts := []) (rd_call (xs := [.const (.int .i64 7), .const (.int .i64 2)]) (by decide) (half_ok 7 2)) rfl rfl rfl (by decide) (by decide)) ⟨rfl, trivial, fun hg => ⟨⟨rfl, rfl, trivial⟩, rfl⟩⟩ ?_
  refine G.step (rd_guard (ts := [15]) (rd_eql (k := .i64) (by decide)) rfl rfl rfl (by decide) (by decide)) ⟨rfl, ⟨fun h => by first | exact h | simp_all, trivial⟩, fun hg => ⟨rfl, rfl⟩⟩ ?_
  refine G.step (rd_pickAnd (by decide)) ⟨rfl, rfl, fun hp => by first | (rw [hp]; rfl) | simp_all⟩ ?_
  refine G.step (rd_move (s := .b _) (by decide)) rfl ?_
  refine G.step (rd_guard (ts := []) (rd_call (xs := [.const (.int .i64 8)]) (by decide) (rootUp_ok 8)) rfl rfl rfl (by decide) (by decide)) ⟨rfl, trivial, fun hg => ⟨⟨rfl, trivial⟩, rfl⟩⟩ ?_
  refine G.step (rd_guard (ts := [19]) (rd_eql (k := .i64) (by decide)) rfl rfl rfl (by decide) (by decide)) ⟨rfl, ⟨fun h => by first | exact h | simp_all, trivial⟩, fun hg => ⟨rfl, rfl⟩⟩ ?_
  refine G.step (rd_pickAnd (by decide)) ⟨rfl, rfl, fun hp => by first | (rw [hp]; rfl) | simp_all⟩ ?_
  refine G.step (rd_move (s := .b _) (by decide)) rfl ?_
  refine G.step (rd_guard (ts := []) (rd_move (s := .i _) (by decide)) rfl rfl rfl (by decide) (by decide)) ⟨rfl, trivial, fun hg => rfl⟩ ?_
  refine G.step (rd_guard (ts := [23]) (rd_eql (k := .i64) (by decide)) rfl rfl rfl (by decide) (by decide)) ⟨rfl, ⟨fun h => by first | exact h | simp_all, trivial⟩, fun hg => ⟨rfl, rfl⟩⟩ ?_
  refine G.step (rd_pickAnd (by decide)) ⟨rfl, rfl, fun hp => by first | (rw [hp]; rfl) | simp_all⟩ ?_
  refine G.step (rd_move (s := .b _) (by decide)) rfl ?_
  refine G.step (rd_guard (ts := []) (rd_move (s := slOf _ _ _ _) (by decide)) rfl rfl rfl (by decide) (by decide)) ⟨rfl, trivial, fun hg => rfl⟩ ?_
  refine G.step (rd_guard (ts := []) (rd_buildSliceL (cell := cellI) (d0 := 0) (l := [_, _, _, _]) (zv := (.int .i64 0)) (xs := [.const (.int .i64 1), .const (.int .i64 0), .const (.int .i64 2), .const (.int .i64 2)]) (ss := [.i _, .i _, .i _, .i _]) (by decide) el22 ze3 rfl (by decide) rfl rfl) rfl rfl rfl (by decide) (by decide)) ⟨rfl, trivial, fun hg => ⟨⟨rfl, rfl, rfl, rfl, trivial⟩, ⟨⟨rfl, trivial⟩, ⟨rfl, trivial⟩, ⟨rfl, trivial⟩, ⟨rfl, trivial⟩, trivial⟩, rfl, rfl, rfl⟩⟩ ?_
  refine G.step (rd_guard (ts := [27, 28]) (rd_call (xs := [.tmp 27, .tmp 28]) (by decide) (ints_ok [1, 0, 2, 2] [1, 0, 2, 2] (by decide))) rfl rfl rfl (by decide) (by decide)) ⟨rfl, ⟨fun h => by first | exact h | simp_all, fun h => by first | exact h | simp_all, trivial⟩, fun hg => ⟨⟨rfl, rfl, trivial⟩, rfl⟩⟩ ?_
  refine G.step (rd_pickAnd (by decide)) ⟨rfl, rfl, fun hp => by first | (rw [hp]; rfl) | simp_all⟩ ?_
  refine G.step (rd_assign (s := .b _) (by decide)) rfl ?_
  refine G.done ?_
  refine W.ret (RetQ.mk (ss := [.b _]) ⟨rfl, trivial⟩ ?_ rfl)
  (have e1 : downI (-7) 2 = -4 := by decide); (have e2 : upI (-7) 2 = -3 := by decide); (have e3 : halfI 7 2 = 4 := by decide); (have e4 : rootUpI 8 = 3 := by decide); simp [resOf, e1, e2, e3, e4]

theorem between_ok (a b : Int) (ha : -2147483648 ≤ a ∧ a ≤ 2147483647) (hb : 0 ≤ b ∧ b ≤ 65535) : FnC Try.prog 6 [.val (.int .i32 a), .val (.int .u16 b)] (.b true) := by
  obtain ⟨lo, hi, mid, A, H, Q, e1, e2, e3, f1, f2, f3, f4, f5, g1, g2, g3, g4, g5, g6, k1, k2, k3, k4⟩ := between_law a b ha hb
  refine FnC.intro 76 Try.func6 rfl nm6 rfl lb (fun w₀ F₀ => ?_)
  refine W.seq ?_
  refine W.region ?_
  refine G.step (rd_assign (s := .b _) (by decide)) rfl ?_
  refine G.done ?_
  refine W.seq ?_
  refine W.region ?_
  refine G.step (rd_move (s := .val (.int .i32 _)) (by decide)) rfl ?_
  refine G.step (rd_conv (by decide) Try.underlying21 Try.underlying3) ⟨rfl, wrap_i64 (by first | omega | (simp_all; done) | (simp_all; omega))⟩ ?_
  refine G.step (rd_move (s := .val (.int .u16 _)) (by decide)) rfl ?_
  refine G.step (rd_conv (by decide) Try.underlying31 Try.underlying3) ⟨rfl, wrap_i64 (by first | omega | (simp_all; done) | (simp_all; omega))⟩ ?_
  refine G.step (rd_add (by decide)) ⟨rfl, rfl, (by first | omega | (simp_all; done) | (simp_all; omega))⟩ ?_
  refine G.step (rd_assign (s := .i _) (by decide)) rfl ?_
  refine G.step (rd_assign (s := .i _) (by decide)) rfl ?_
  refine G.done ?_
  refine W.seq ?_
  refine W.region ?_
  refine G.step (rd_move (s := .i _) (by decide)) rfl ?_
  refine G.step (rd_move (s := .i _) (by decide)) rfl ?_
  refine G.step (rd_call (xs := [.tmp 15, .tmp 16]) (by decide) ((down_ok a (1 + b)).res (res' := .i lo) (by rw [e1]))) ⟨⟨rfl, rfl, trivial⟩, rfl⟩ ?_
  refine G.step (rd_move (s := .i _) (by decide)) rfl ?_
  refine G.step (rd_move (s := .i _) (by decide)) rfl ?_
  refine G.step (rd_call (xs := [.tmp 18, .tmp 19]) (by decide) ((up_ok a (1 + b)).res (res' := .i hi) (by rw [e2]))) ⟨⟨rfl, rfl, trivial⟩, rfl⟩ ?_
  refine G.step (rd_move (s := .i _) (by decide)) rfl ?_
  refine G.step (rd_move (s := .i _) (by decide)) rfl ?_
  refine G.step (rd_call (xs := [.tmp 21, .tmp 22]) (by decide) ((half_ok a (1 + b)).res (res' := .i mid) (by rw [e3]))) ⟨⟨rfl, rfl, trivial⟩, rfl⟩ ?_
  refine G.step (rd_assign (s := .i _) (by decide)) rfl ?_
  refine G.step (rd_assign (s := .i _) (by decide)) rfl ?_
  refine G.step (rd_assign (s := .i _) (by decide)) rfl ?_
  refine G.done ?_
  refine W.seq ?_
  refine W.region ?_
  refine G.step (rd_move (s := .i _) (by decide)) rfl ?_
  refine G.step (rd_move (s := .i _) (by decide)) rfl ?_
  refine G.step (rd_mul (by decide)) ⟨rfl, rfl, (by first | omega | (simp_all; done) | (simp_all; omega))⟩ ?_
  refine G.step (rd_move (s := .i _) (by decide)) rfl ?_
  refine G.step (rd_leq (k := .i64) (by decide)) ⟨rfl, rfl⟩ ?_
  refine G.step (rd_move (s := .b _) (by decide)) rfl ?_
  refine G.step (rd_guard (ts := []) (rd_move (s := .i _) (by decide)) rfl rfl rfl (by decide) (by decide)) ⟨rfl, trivial, fun hg => rfl⟩ ?_
  refine G.step (rd_guard (ts := []) (rd_move (s := .i _) (by decide)) rfl rfl rfl (by decide) (by decide)) ⟨rfl, trivial, fun hg => rfl⟩ ?_
  refine G.step (rd_guard (ts := [31]) (rd_add (by decide)) rfl rfl rfl (by decide) (by decide)) ⟨rfl, ⟨fun h => by first | exact h | simp_all, trivial⟩, fun hg => ⟨rfl, rfl, (by (try simp only [Bool.and_eq_true, Bool.or_eq_true, Bool.not_eq_true', Bool.not_eq_false', Bool.and_eq_false_iff, Bool.or_eq_false_iff, decide_eq_true_eq, decide_eq_false_iff_not, beq_iff_eq, bne_iff_ne, Bool.not_true, Bool.not_false, Bool.not_not, beq_eq_false_iff_ne] at hg); first | omega | (simp_all; done) | (simp_all; omega))⟩⟩ ?_
  refine G.step (rd_guard (ts := []) (rd_move (s := .i _) (by decide)) rfl rfl rfl (by decide) (by decide)) ⟨rfl, trivial, fun hg => rfl⟩ ?_
  refine G.step (rd_guard (ts := [32, 33]) (rd_mul (by decide)) rfl rfl rfl (by decide) (by decide)) ⟨rfl, ⟨fun h => by first | exact h | simp_all, fun h => by first | exact h | simp_all, trivial⟩, fun hg => ⟨rfl, rfl, (by (try simp only [Bool.and_eq_true, Bool.or_eq_true, Bool.not_eq_true', Bool.not_eq_false', Bool.and_eq_false_iff, Bool.or_eq_false_iff, decide_eq_true_eq, decide_eq_false_iff_not, beq_iff_eq, bne_iff_ne, Bool.not_true, Bool.not_false, Bool.not_not, beq_eq_false_iff_ne] at hg); first | omega | (simp_all; done) | (simp_all; omega))⟩⟩ ?_
  refine G.step (rd_guard (ts := [30, 34]) (rd_lss (k := .i64) (by decide)) rfl rfl rfl (by decide) (by decide)) ⟨rfl, ⟨fun h => by first | exact h | simp_all, fun h => by first | exact h | simp_all, trivial⟩, fun hg => ⟨rfl, rfl⟩⟩ ?_
  refine G.step (rd_pickAnd (by decide)) ⟨rfl, rfl, fun hp => by first | (rw [hp]; rfl) | simp_all⟩ ?_
  refine G.step (rd_move (s := .b _) (by decide)) rfl ?_
  refine G.step (rd_guard (ts := []) (rd_move (s := .i _) (by decide)) rfl rfl rfl (by decide) (by decide)) ⟨rfl, trivial, fun hg => rfl⟩ ?_
  refine G.step (rd_guard (ts := []) (rd_move (s := .i _) (by decide)) rfl rfl rfl (by decide) (by decide)) ⟨rfl, trivial, fun hg => rfl⟩ ?_
  refine G.step (rd_guard (ts := [38, 39]) (rd_mul (by decide)) rfl rfl rfl (by decide) (by decide)) ⟨rfl, ⟨fun h => by first | exact h | simp_all, fun h => by first | exact h | simp_all, trivial⟩, fun hg => ⟨rfl, rfl, (by (try simp only [Bool.and_eq_true, Bool.or_eq_true, Bool.not_eq_true', Bool.not_eq_false', Bool.and_eq_false_iff, Bool.or_eq_false_iff, decide_eq_true_eq, decide_eq_false_iff_not, beq_iff_eq, bne_iff_ne, Bool.not_true, Bool.not_false, Bool.not_not, beq_eq_false_iff_ne] at hg); first | omega | (simp_all; done) | (simp_all; omega))⟩⟩ ?_
  refine G.step (rd_guard (ts := []) (rd_move (s := .i _) (by decide)) rfl rfl rfl (by decide) (by decide)) ⟨rfl, trivial, fun hg => rfl⟩ ?_
  refine G.step (rd_guard (ts := [40, 41]) (rd_geq (k := .i64) (by decide)) rfl rfl rfl (by decide) (by decide)) ⟨rfl, ⟨fun h => by first | exact h | simp_all, fun h => by first | exact h | simp_all, trivial⟩, fun hg => ⟨rfl, rfl⟩⟩ ?_
  refine G.step (rd_pickAnd (by decide)) ⟨rfl, rfl, fun hp => by first | (rw [hp]; rfl) | simp_all⟩ ?_
  refine G.step (rd_move (s := .b _) (by decide)) rfl ?_
  refine G.step (rd_guard (ts := []) (rd_move (s := .i _) (by decide)) rfl rfl rfl (by decide) (by decide)) ⟨rfl, trivial, fun hg => rfl⟩ ?_
  refine G.step (rd_guard (ts := []) (rd_move (s := .i _) (by decide)) rfl rfl rfl (by decide) (by decide)) ⟨rfl, trivial, fun hg => rfl⟩ ?_
  refine G.step (rd_guard (ts := [46]) (rd_sub (by decide)) rfl rfl rfl (by decide) (by decide)) ⟨rfl, ⟨fun h => by first | exact h | simp_all, trivial⟩, fun hg => ⟨rfl, rfl, (by (try simp only [Bool.and_eq_true, Bool.or_eq_true, Bool.not_eq_true', Bool.not_eq_false', Bool.and_eq_false_iff, Bool.or_eq_false_iff, decide_eq_true_eq, decide_eq_false_iff_not, beq_iff_eq, bne_iff_ne, Bool.not_true, Bool.not_false, Bool.not_not, beq_eq_false_iff_ne] at hg); first | omega | (simp_all; done) | (simp_all; omega))⟩⟩ ?_
  refine G.step (rd_guard (ts := []) (rd_move (s := .i _) (by decide)) rfl rfl rfl (by decide) (by decide)) ⟨rfl, trivial, fun hg => rfl⟩ ?_
  refine G.step (rd_guard (ts := [47, 48]) (rd_mul (by decide)) rfl rfl rfl (by decide) (by decide)) ⟨rfl, ⟨fun h => by first | exact h | simp_all, fun h => by first | exact h | simp_all, trivial⟩, fun hg => ⟨rfl, rfl, (by (try simp only [Bool.and_eq_true, Bool.or_eq_true, Bool.not_eq_true', Bool.not_eq_false', Bool.and_eq_false_iff, Bool.or_eq_false_iff, decide_eq_true_eq, decide_eq_false_iff_not, beq_iff_eq, bne_iff_ne, Bool.not_true, Bool.not_false, Bool.not_not, beq_eq_false_iff_ne] at hg); first | omega | (simp_all; done) | (simp_all; omega))⟩⟩ ?_
  refine G.step (rd_guard (ts := [45, 49]) (rd_gtr (k := .i64) (by decide)) rfl rfl rfl (by decide) (by decide)) ⟨rfl, ⟨fun h => by first | exact h | simp_all, fun h => by first | exact h | simp_all, trivial⟩, fun hg => ⟨rfl, rfl⟩⟩ ?_
  refine G.step (rd_pickAnd (by decide)) ⟨rfl, rfl, fun hp => by first | (rw [hp]; rfl) | simp_all⟩ ?_
  refine G.step (rd_move (s := .b _) (by decide)) rfl ?_
  refine G.step (rd_guard (ts := []) (rd_move (s := .i _) (by decide)) rfl rfl rfl (by decide) (by decide)) ⟨rfl, trivial, fun hg => rfl⟩ ?_
  refine G.step (rd_guard (ts := []) (rd_move (s := .i _) (by decide)) rfl rfl rfl (by decide) (by decide)) ⟨rfl, trivial, fun hg => rfl⟩ ?_
  refine G.step (rd_guard (ts := []) (rd_move (s := .i _) (by decide)) rfl rfl rfl (by decide) (by decide)) ⟨rfl, trivial, fun hg => rfl⟩ ?_
  refine G.step (rd_guard (ts := [54, 55]) (rd_mul (by decide)) rfl rfl rfl (by decide) (by decide)) ⟨rfl, ⟨fun h => by first | exact h | simp_all, fun h => by first | exact h | simp_all, trivial⟩, fun hg => ⟨rfl, rfl, (by (try simp only [Bool.and_eq_true, Bool.or_eq_true, Bool.not_eq_true', Bool.not_eq_false', Bool.and_eq_false_iff, Bool.or_eq_false_iff, decide_eq_true_eq, decide_eq_false_iff_not, beq_iff_eq, bne_iff_ne, Bool.not_true, Bool.not_false, Bool.not_not, beq_eq_false_iff_ne] at hg); first | omega | (simp_all; done) | (simp_all; omega))⟩⟩ ?_
  refine G.step (rd_guard (ts := [53, 56]) (rd_sub (by decide)) rfl rfl rfl (by decide) (by decide)) ⟨rfl, ⟨fun h => by first | exact h | simp_all, fun h => by first | exact h | simp_all, trivial⟩, fun hg => ⟨rfl, rfl, (by (try simp only [Bool.and_eq_true, Bool.or_eq_true, Bool.not_eq_true', Bool.not_eq_false', Bool.and_eq_false_iff, Bool.or_eq_false_iff, decide_eq_true_eq, decide_eq_false_iff_not, beq_iff_eq, bne_iff_ne, Bool.not_true, Bool.not_false, Bool.not_not, beq_eq_false_iff_ne] at hg); first | omega | (simp_all; done) | (simp_all; omega))⟩⟩ ?_
  refine G.step (rd_guard (ts := [57]) (rd_mul (by decide)) rfl rfl rfl (by decide) (by decide)) ⟨rfl, ⟨fun h => by first | exact h | simp_all, trivial⟩, fun hg => ⟨rfl, rfl, (by (try simp only [Bool.and_eq_true, Bool.or_eq_true, Bool.not_eq_true', Bool.not_eq_false', Bool.and_eq_false_iff, Bool.or_eq_false_iff, decide_eq_true_eq, decide_eq_false_iff_not, beq_iff_eq, bne_iff_ne, Bool.not_true, Bool.not_false, Bool.not_not, beq_eq_false_iff_ne] at hg); first | omega | (simp_all; done) | (simp_all; omega))⟩⟩ ?_
  refine G.step (rd_guard (ts := []) (rd_move (s := .i _) (by decide)) rfl rfl rfl (by decide) (by decide)) ⟨rfl, trivial, fun hg => rfl⟩ ?_
  refine G.step (rd_guard (ts := [58, 59]) (rd_lss (k := .i64) (by decide)) rfl rfl rfl (by decide) (by decide)) ⟨rfl, ⟨fun h => by first | exact h | simp_all, fun h => by first | exact h | simp_all, trivial⟩, fun hg => ⟨rfl, rfl⟩⟩ ?_
  refine G.step (rd_pickAnd (by decide)) ⟨rfl, rfl, fun hp => by first | (rw [hp]; rfl) | simp_all⟩ ?_
  refine G.step (rd_move (s := .b _) (by decide)) rfl ?_
  refine G.step (rd_guard (ts := []) (rd_move (s := .i _) (by decide)) rfl rfl rfl (by decide) (by decide)) ⟨rfl, trivial, fun hg => rfl⟩ ?_
  refine G.step (rd_guard (ts := []) (rd_move (s := .i _) (by decide)) rfl rfl rfl (by decide) (by decide)) ⟨rfl, trivial, fun hg => rfl⟩ ?_
  refine G.step (rd_guard (ts := []) (rd_move (s := .i _) (by decide)) rfl rfl rfl (by decide) (by decide)) ⟨rfl, trivial, fun hg => rfl⟩ ?_
  refine G.step (rd_guard (ts := [64, 65]) (rd_mul (by decide)) rfl rfl rfl (by decide) (by decide)) ⟨rfl, ⟨fun h => by first | exact h | simp_all, fun h => by first | exact h | simp_all, trivial⟩, fun hg => ⟨rfl, rfl, (by (try simp only [Bool.and_eq_true, Bool.or_eq_true, Bool.not_eq_true', Bool.not_eq_false', Bool.and_eq_false_iff, Bool.or_eq_false_iff, decide_eq_true_eq, decide_eq_false_iff_not, beq_iff_eq, bne_iff_ne, Bool.not_true, Bool.not_false, Bool.not_not, beq_eq_false_iff_ne] at hg); first | omega | (simp_all; done) | (simp_all; omega))⟩⟩ ?_
  refine G.step (rd_guard (ts := [63, 66]) (rd_sub (by decide)) rfl rfl rfl (by decide) (by decide)) ⟨rfl, ⟨fun h => by first | exact h | simp_all, fun h => by first | exact h | simp_all, trivial⟩, fun hg => ⟨rfl, rfl, (by (try simp only [Bool.and_eq_true, Bool.or_eq_true, Bool.not_eq_true', Bool.not_eq_false', Bool.and_eq_false_iff, Bool.or_eq_false_iff, decide_eq_true_eq, decide_eq_false_iff_not, beq_iff_eq, bne_iff_ne, Bool.not_true, Bool.not_false, Bool.not_not, beq_eq_false_iff_ne] at hg); first | omega | (simp_all; done) | (simp_all; omega))⟩⟩ ?_
  refine G.step (rd_guard (ts := [67]) (rd_mul (by decide)) rfl rfl rfl (by decide) (by decide)) ⟨rfl, ⟨fun h => by first | exact h | simp_all, trivial⟩, fun hg => ⟨rfl, rfl, (by (try simp only [Bool.and_eq_true, Bool.or_eq_true, Bool.not_eq_true', Bool.not_eq_false', Bool.and_eq_false_iff, Bool.or_eq_false_iff, decide_eq_true_eq, decide_eq_false_iff_not, beq_iff_eq, bne_iff_ne, Bool.not_true, Bool.not_false, Bool.not_not, beq_eq_false_iff_ne] at hg); first | omega | (simp_all; done) | (simp_all; omega))⟩⟩ ?_
  refine G.step (rd_guard (ts := []) (rd_move (s := .i _) (by decide)) rfl rfl rfl (by decide) (by decide)) ⟨rfl, trivial, fun hg => rfl⟩ ?_
  refine G.step (rd_guard (ts := [69]) (rd_neg (by decide)) rfl rfl rfl (by decide) (by decide)) ⟨rfl, ⟨fun h => by first | exact h | simp_all, trivial⟩, fun hg => ⟨rfl, (by (try simp only [Bool.and_eq_true, Bool.or_eq_true, Bool.not_eq_true', Bool.not_eq_false', Bool.and_eq_false_iff, Bool.or_eq_false_iff, decide_eq_true_eq, decide_eq_false_iff_not, beq_iff_eq, bne_iff_ne, Bool.not_true, Bool.not_false, Bool.not_not, beq_eq_false_iff_ne] at hg); first | omega | (simp_all; done) | (simp_all; omega))⟩⟩ ?_
  refine G.step (rd_guard (ts := [68, 70]) (rd_geq (k := .i64) (by decide)) rfl rfl rfl (by decide) (by decide)) ⟨rfl, ⟨fun h => by first | exact h | simp_all, fun h => by first | exact h | simp_all, trivial⟩, fun hg => ⟨rfl, rfl⟩⟩ ?_
  refine G.step (rd_pickAnd (by decide)) ⟨rfl, rfl, fun hp => by first | (rw [hp]; rfl) | simp_all⟩ ?_
  refine G.step (rd_move (s := .b _) (by decide)) rfl ?_
  refine G.step (rd_guard (ts := []) (rd_call (xs := []) (by decide) (awake_ok)) rfl rfl rfl (by decide) (by decide)) ⟨rfl, trivial, fun hg => ⟨trivial, rfl⟩⟩ ?_
  refine G.step (rd_pickAnd (by decide)) ⟨rfl, rfl, fun hp => by first | (rw [hp]; rfl) | simp_all⟩ ?_
  refine G.step (rd_assign (s := .b _) (by decide)) rfl ?_
  refine G.done ?_
  refine W.ret (RetQ.mk (ss := [.b _]) ⟨rfl, trivial⟩ ?_ rfl)
  (simp only [resOf, f1, f2, f3, f4, f5]; simp; omega)

theorem turns_ok (a b k : Int) (ha : -2147483648 ≤ a ∧ a ≤ 2147483647) (hb : 0 ≤ b ∧ b ≤ 65535) (hk : -32768 ≤ k ∧ k ≤ 32767) : FnC Try.prog 10 [.val (.int .i32 a), .val (.int .u16 b), .val (.int .i16 k)] (.b true) := by
  obtain ⟨e1, e2, e3, e4⟩ := turns_law a b k ha hb hk
  have hP := prod_bd2 hk (show 1 ≤ 1 + b ∧ 1 + b ≤ 65536 by omega)
  have b1 := downI_bd a (1 + b)
  have b2 := upI_bd a (1 + b)
  have b3 := halfI_bd a (1 + b)
  refine FnC.intro 74 Try.func10 rfl nm10 rfl lb (fun w₀ F₀ => ?_)
  refine W.seq ?_
  refine W.region ?_
  refine G.step (rd_assign (s := .b _) (by decide)) rfl ?_
  refine G.done ?_
  refine W.seq ?_
  refine W.region ?_
  refine G.step (rd_move (s := .val (.int .i32 _)) (by decide)) rfl ?_
  refine G.step (rd_conv (by decide) Try.underlying21 Try.underlying3) ⟨rfl, wrap_i64 (by first | omega | (simp_all; done) | (simp_all; omega))⟩ ?_
  refine G.step (rd_move (s := .val (.int .u16 _)) (by decide)) rfl ?_
  refine G.step (rd_conv (by decide) Try.underlying31 Try.underlying3) ⟨rfl, wrap_i64 (by first | omega | (simp_all; done) | (simp_all; omega))⟩ ?_
  refine G.step (rd_add (by decide)) ⟨rfl, rfl, (by first | omega | (simp_all; done) | (simp_all; omega))⟩ ?_
  refine G.step (rd_move (s := .val (.int .i16 _)) (by decide)) rfl ?_
  refine G.step (rd_conv (by decide) Try.underlying47 Try.underlying3) ⟨rfl, wrap_i64 (by first | omega | (simp_all; done) | (simp_all; omega))⟩ ?_
  refine G.step (rd_assign (s := .i _) (by decide)) rfl ?_
  refine G.step (rd_assign (s := .i _) (by decide)) rfl ?_
  refine G.step (rd_assign (s := .i _) (by decide)) rfl ?_
  refine G.done ?_
  refine W.seq ?_
  refine W.region ?_
  refine G.step (rd_move (s := .i _) (by decide)) rfl ?_
  refine G.step (rd_neg (by decide)) ⟨rfl, (by first | omega | (simp_all; done) | (simp_all; omega))⟩ ?_
  refine G.step (rd_move (s := .i _) (by decide)) rfl ?_
  refine G.step (rd_call (xs := [.tmp 18, .tmp 19]) (by decide) (down_ok _ _)) ⟨⟨rfl, rfl, trivial⟩, rfl⟩ ?_
  refine G.step (rd_move (s := .i _) (by decide)) rfl ?_
  refine G.step (rd_move (s := .i _) (by decide)) rfl ?_
  refine G.step (rd_call (xs := [.tmp 21, .tmp 22]) (by decide) (up_ok _ _)) ⟨⟨rfl, rfl, trivial⟩, rfl⟩ ?_
  refine G.step (rd_neg (by decide)) ⟨rfl, (by first | omega | (simp_all; done) | (simp_all; omega))⟩ ?_
  refine G.step (rd_eql (k := .i64) (by decide)) ⟨rfl, rfl⟩ ?_
  refine G.step (rd_move (s := .b _) (by decide)) rfl ?_
  refine G.step (rd_guard (ts := []) (rd_move (s := .i _) (by decide)) rfl rfl rfl (by decide) (by decide)) ⟨rfl, trivial, fun hg => rfl⟩ ?_
  refine G.step (rd_guard (ts := []) (rd_move (s := .i _) (by decide)) rfl rfl rfl (by decide) (by decide)) ⟨rfl, trivial, fun hg => rfl⟩ ?_
  refine G.step (rd_guard (ts := []) (rd_move (s := .i _) (by decide)) rfl rfl rfl (by decide) (by decide)) ⟨rfl, trivial, fun hg => rfl⟩ ?_
  refine G.step (rd_guard (ts := [28, 29]) (rd_mul (by decide)) rfl rfl rfl (by decide) (by decide)) ⟨rfl, ⟨fun h => by first | exact h | simp_all, fun h => by first | exact h | simp_all, trivial⟩, fun hg => ⟨rfl, rfl, (by (try simp only [Bool.and_eq_true, Bool.or_eq_true, Bool.not_eq_true', Bool.not_eq_false', Bool.and_eq_false_iff, Bool.or_eq_false_iff, decide_eq_true_eq, decide_eq_false_iff_not, beq_iff_eq, bne_iff_ne, Bool.not_true, Bool.not_false, Bool.not_not, beq_eq_false_iff_ne] at hg); first | omega | (simp_all; done) | (simp_all; omega))⟩⟩ ?_
  refine G.step (rd_guard (ts := [27, 30]) (rd_add (by decide)) rfl rfl rfl (by decide) (by decide)) ⟨rfl, ⟨fun h => by first | exact h | simp_all, fun h => by first | exact h | simp_all, trivial⟩, fun hg => ⟨rfl, rfl, (by (try simp only [Bool.and_eq_true, Bool.or_eq_true, Bool.not_eq_true', Bool.not_eq_false', Bool.and_eq_false_iff, Bool.or_eq_false_iff, decide_eq_true_eq, decide_eq_false_iff_not, beq_iff_eq, bne_iff_ne, Bool.not_true, Bool.not_false, Bool.not_not, beq_eq_false_iff_ne] at hg); first | omega | (simp_all; done) | (simp_all; omega))⟩⟩ ?_
  refine G.step (rd_guard (ts := []) (rd_move (s := .i _) (by decide)) rfl rfl rfl (by decide) (by decide)) ⟨rfl, trivial, fun hg => rfl⟩ ?_
  refine G.step (rd_guard (ts := [31, 32]) (rd_call (xs := [.tmp 31, .tmp 32]) (by decide) (down_ok _ _)) rfl rfl rfl (by decide) (by decide)) ⟨rfl, ⟨fun h => by first | exact h | simp_all, fun h => by first | exact h | simp_all, trivial⟩, fun hg => ⟨⟨rfl, rfl, trivial⟩, rfl⟩⟩ ?_
  refine G.step (rd_guard (ts := []) (rd_move (s := .i _) (by decide)) rfl rfl rfl (by decide) (by decide)) ⟨rfl, trivial, fun hg => rfl⟩ ?_
  refine G.step (rd_guard (ts := []) (rd_move (s := .i _) (by decide)) rfl rfl rfl (by decide) (by decide)) ⟨rfl, trivial, fun hg => rfl⟩ ?_
  refine G.step (rd_guard (ts := [34, 35]) (rd_call (xs := [.tmp 34, .tmp 35]) (by decide) (down_ok _ _)) rfl rfl rfl (by decide) (by decide)) ⟨rfl, ⟨fun h => by first | exact h | simp_all, fun h => by first | exact h | simp_all, trivial⟩, fun hg => ⟨⟨rfl, rfl, trivial⟩, rfl⟩⟩ ?_
  refine G.step (rd_guard (ts := []) (rd_move (s := .i _) (by decide)) rfl rfl rfl (by decide) (by decide)) ⟨rfl, trivial, fun hg => rfl⟩ ?_
  refine G.step (rd_guard (ts := [36, 37]) (rd_add (by decide)) rfl rfl rfl (by decide) (by decide)) ⟨rfl, ⟨fun h => by first | exact h | simp_all, fun h => by first | exact h | simp_all, trivial⟩, fun hg => ⟨rfl, rfl, (by (try simp only [Bool.and_eq_true, Bool.or_eq_true, Bool.not_eq_true', Bool.not_eq_false', Bool.and_eq_false_iff, Bool.or_eq_false_iff, decide_eq_true_eq, decide_eq_false_iff_not, beq_iff_eq, bne_iff_ne, Bool.not_true, Bool.not_false, Bool.not_not, beq_eq_false_iff_ne] at hg); first | omega | (simp_all; done) | (simp_all; omega))⟩⟩ ?_
  refine G.step (rd_guard (ts := [33, 38]) (rd_eql (k := .i64) (by decide)) rfl rfl rfl (by decide) (by decide)) ⟨rfl, ⟨fun h => by first | exact h | simp_all, fun h => by first | exact h | simp_all, trivial⟩, fun hg => ⟨rfl, rfl⟩⟩ ?_
  refine G.step (rd_pickAnd (by decide)) ⟨rfl, rfl, fun hp => by first | (rw [hp]; rfl) | simp_all⟩ ?_
  refine G.step (rd_move (s := .b _) (by decide)) rfl ?_
  refine G.step (rd_guard (ts := []) (rd_move (s := .i _) (by decide)) rfl rfl rfl (by decide) (by decide)) ⟨rfl, trivial, fun hg => rfl⟩ ?_
  refine G.step (rd_guard (ts := []) (rd_move (s := .i _) (by decide)) rfl rfl rfl (by decide) (by decide)) ⟨rfl, trivial, fun hg => rfl⟩ ?_
  refine G.step (rd_guard (ts := []) (rd_move (s := .i _) (by decide)) rfl rfl rfl (by decide) (by decide)) ⟨rfl, trivial, fun hg => rfl⟩ ?_
  refine G.step (rd_guard (ts := [43, 44]) (rd_mul (by decide)) rfl rfl rfl (by decide) (by decide)) ⟨rfl, ⟨fun h => by first | exact h | simp_all, fun h => by first | exact h | simp_all, trivial⟩, fun hg => ⟨rfl, rfl, (by (try simp only [Bool.and_eq_true, Bool.or_eq_true, Bool.not_eq_true', Bool.not_eq_false', Bool.and_eq_false_iff, Bool.or_eq_false_iff, decide_eq_true_eq, decide_eq_false_iff_not, beq_iff_eq, bne_iff_ne, Bool.not_true, Bool.not_false, Bool.not_not, beq_eq_false_iff_ne] at hg); first | omega | (simp_all; done) | (simp_all; omega))⟩⟩ ?_
  refine G.step (rd_guard (ts := [42, 45]) (rd_add (by decide)) rfl rfl rfl (by decide) (by decide)) ⟨rfl, ⟨fun h => by first | exact h | simp_all, fun h => by first | exact h | simp_all, trivial⟩, fun hg => ⟨rfl, rfl, (by (try simp only [Bool.and_eq_true, Bool.or_eq_true, Bool.not_eq_true', Bool.not_eq_false', Bool.and_eq_false_iff, Bool.or_eq_false_iff, decide_eq_true_eq, decide_eq_false_iff_not, beq_iff_eq, bne_iff_ne, Bool.not_true, Bool.not_false, Bool.not_not, beq_eq_false_iff_ne] at hg); first | omega | (simp_all; done) | (simp_all; omega))⟩⟩ ?_
  refine G.step (rd_guard (ts := []) (rd_move (s := .i _) (by decide)) rfl rfl rfl (by decide) (by decide)) ⟨rfl, trivial, fun hg => rfl⟩ ?_
  refine G.step (rd_guard (ts := [46, 47]) (rd_call (xs := [.tmp 46, .tmp 47]) (by decide) (up_ok _ _)) rfl rfl rfl (by decide) (by decide)) ⟨rfl, ⟨fun h => by first | exact h | simp_all, fun h => by first | exact h | simp_all, trivial⟩, fun hg => ⟨⟨rfl, rfl, trivial⟩, rfl⟩⟩ ?_
  refine G.step (rd_guard (ts := []) (rd_move (s := .i _) (by decide)) rfl rfl rfl (by decide) (by decide)) ⟨rfl, trivial, fun hg => rfl⟩ ?_
  refine G.step (rd_guard (ts := []) (rd_move (s := .i _) (by decide)) rfl rfl rfl (by decide) (by decide)) ⟨rfl, trivial, fun hg => rfl⟩ ?_
  refine G.step (rd_guard (ts := [49, 50]) (rd_call (xs := [.tmp 49, .tmp 50]) (by decide) (up_ok _ _)) rfl rfl rfl (by decide) (by decide)) ⟨rfl, ⟨fun h => by first | exact h | simp_all, fun h => by first | exact h | simp_all, trivial⟩, fun hg => ⟨⟨rfl, rfl, trivial⟩, rfl⟩⟩ ?_
  refine G.step (rd_guard (ts := []) (rd_move (s := .i _) (by decide)) rfl rfl rfl (by decide) (by decide)) ⟨rfl, trivial, fun hg => rfl⟩ ?_
  refine G.step (rd_guard (ts := [51, 52]) (rd_add (by decide)) rfl rfl rfl (by decide) (by decide)) ⟨rfl, ⟨fun h => by first | exact h | simp_all, fun h => by first | exact h | simp_all, trivial⟩, fun hg => ⟨rfl, rfl, (by (try simp only [Bool.and_eq_true, Bool.or_eq_true, Bool.not_eq_true', Bool.not_eq_false', Bool.and_eq_false_iff, Bool.or_eq_false_iff, decide_eq_true_eq, decide_eq_false_iff_not, beq_iff_eq, bne_iff_ne, Bool.not_true, Bool.not_false, Bool.not_not, beq_eq_false_iff_ne] at hg); first | omega | (simp_all; done) | (simp_all; omega))⟩⟩ ?_
  refine G.step (rd_guard (ts := [48, 53]) (rd_eql (k := .i64) (by decide)) rfl rfl rfl (by decide) (by decide)) ⟨rfl, ⟨fun h => by first | exact h | simp_all, fun h => by first | exact h | simp_all, trivial⟩, fun hg => ⟨rfl, rfl⟩⟩ ?_
  refine G.step (rd_pickAnd (by decide)) ⟨rfl, rfl, fun hp => by first | (rw [hp]; rfl) | simp_all⟩ ?_
  refine G.step (rd_move (s := .b _) (by decide)) rfl ?_
  refine G.step (rd_guard (ts := []) (rd_move (s := .i _) (by decide)) rfl rfl rfl (by decide) (by decide)) ⟨rfl, trivial, fun hg => rfl⟩ ?_
  refine G.step (rd_guard (ts := []) (rd_move (s := .i _) (by decide)) rfl rfl rfl (by decide) (by decide)) ⟨rfl, trivial, fun hg => rfl⟩ ?_
  refine G.step (rd_guard (ts := []) (rd_move (s := .i _) (by decide)) rfl rfl rfl (by decide) (by decide)) ⟨rfl, trivial, fun hg => rfl⟩ ?_
  refine G.step (rd_guard (ts := [58, 59]) (rd_mul (by decide)) rfl rfl rfl (by decide) (by decide)) ⟨rfl, ⟨fun h => by first | exact h | simp_all, fun h => by first | exact h | simp_all, trivial⟩, fun hg => ⟨rfl, rfl, (by (try simp only [Bool.and_eq_true, Bool.or_eq_true, Bool.not_eq_true', Bool.not_eq_false', Bool.and_eq_false_iff, Bool.or_eq_false_iff, decide_eq_true_eq, decide_eq_false_iff_not, beq_iff_eq, bne_iff_ne, Bool.not_true, Bool.not_false, Bool.not_not, beq_eq_false_iff_ne] at hg); first | omega | (simp_all; done) | (simp_all; omega))⟩⟩ ?_
  refine G.step (rd_guard (ts := [57, 60]) (rd_add (by decide)) rfl rfl rfl (by decide) (by decide)) ⟨rfl, ⟨fun h => by first | exact h | simp_all, fun h => by first | exact h | simp_all, trivial⟩, fun hg => ⟨rfl, rfl, (by (try simp only [Bool.and_eq_true, Bool.or_eq_true, Bool.not_eq_true', Bool.not_eq_false', Bool.and_eq_false_iff, Bool.or_eq_false_iff, decide_eq_true_eq, decide_eq_false_iff_not, beq_iff_eq, bne_iff_ne, Bool.not_true, Bool.not_false, Bool.not_not, beq_eq_false_iff_ne] at hg); first | omega | (simp_all; done) | (simp_all; omega))⟩⟩ ?_
  refine G.step (rd_guard (ts := []) (rd_move (s := .i _) (by decide)) rfl rfl rfl (by decide) (by decide)) ⟨rfl, trivial, fun hg => rfl⟩ ?_
  refine G.step (rd_guard (ts := [61, 62]) (rd_call (xs := [.tmp 61, .tmp 62]) (by decide) (half_ok _ _)) rfl rfl rfl (by decide) (by decide)) ⟨rfl, ⟨fun h => by first | exact h | simp_all, fun h => by first | exact h | simp_all, trivial⟩, fun hg => ⟨⟨rfl, rfl, trivial⟩, rfl⟩⟩ ?_
  refine G.step (rd_guard (ts := []) (rd_move (s := .i _) (by decide)) rfl rfl rfl (by decide) (by decide)) ⟨rfl, trivial, fun hg => rfl⟩ ?_
  refine G.step (rd_guard (ts := []) (rd_move (s := .i _) (by decide)) rfl rfl rfl (by decide) (by decide)) ⟨rfl, trivial, fun hg => rfl⟩ ?_
  refine G.step (rd_guard (ts := [64, 65]) (rd_call (xs := [.tmp 64, .tmp 65]) (by decide) (half_ok _ _)) rfl rfl rfl (by decide) (by decide)) ⟨rfl, ⟨fun h => by first | exact h | simp_all, fun h => by first | exact h | simp_all, trivial⟩, fun hg => ⟨⟨rfl, rfl, trivial⟩, rfl⟩⟩ ?_
  refine G.step (rd_guard (ts := []) (rd_move (s := .i _) (by decide)) rfl rfl rfl (by decide) (by decide)) ⟨rfl, trivial, fun hg => rfl⟩ ?_
  refine G.step (rd_guard (ts := [66, 67]) (rd_add (by decide)) rfl rfl rfl (by decide) (by decide)) ⟨rfl, ⟨fun h => by first | exact h | simp_all, fun h => by first | exact h | simp_all, trivial⟩, fun hg => ⟨rfl, rfl, (by (try simp only [Bool.and_eq_true, Bool.or_eq_true, Bool.not_eq_true', Bool.not_eq_false', Bool.and_eq_false_iff, Bool.or_eq_false_iff, decide_eq_true_eq, decide_eq_false_iff_not, beq_iff_eq, bne_iff_ne, Bool.not_true, Bool.not_false, Bool.not_not, beq_eq_false_iff_ne] at hg); first | omega | (simp_all; done) | (simp_all; omega))⟩⟩ ?_
  refine G.step (rd_guard (ts := [63, 68]) (rd_eql (k := .i64) (by decide)) rfl rfl rfl (by decide) (by decide)) ⟨rfl, ⟨fun h => by first | exact h | simp_all, fun h => by first | exact h | simp_all, trivial⟩, fun hg => ⟨rfl, rfl⟩⟩ ?_
  refine G.step (rd_pickAnd (by decide)) ⟨rfl, rfl, fun hp => by first | (rw [hp]; rfl) | simp_all⟩ ?_
  refine G.step (rd_move (s := .b _) (by decide)) rfl ?_
  refine G.step (rd_guard (ts := []) (rd_call (xs := []) (by decide) (awake_ok)) rfl rfl rfl (by decide) (by decide)) ⟨rfl, trivial, fun hg => ⟨trivial, rfl⟩⟩ ?_
  refine G.step (rd_pickAnd (by decide)) ⟨rfl, rfl, fun hp => by first | (rw [hp]; rfl) | simp_all⟩ ?_
  refine G.step (rd_assign (s := .b _) (by decide)) rfl ?_
  refine G.done ?_
  refine W.ret (RetQ.mk (ss := [.b _]) ⟨rfl, trivial⟩ ?_ rfl)
  (simp only [resOf, e1, e2, e3, e4]; simp)
end Go.Proofs.Ytdmfhnpibllfeaa
