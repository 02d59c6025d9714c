/- The law LotsSums, from its contract: its row, and the card. The row's own condition: the listed package variable holds what the program's text lays (the card ties it). -/
import Derived.Test.YtiojagjejddocaaGreatDoorRows
import Derived.Test.YtiojagjejddocaaGreatDoorCards
import Derived.Test.YtiojagjejddocaaGreatDoorTie
import Derived.Test.YtiojagjejddocaaGreatDoorLs5
import Derived.Test.YtiojagjejddocaaGreatDoorSqZ
import Derived.WalkKit
import Derived.ProofKit
import Derived.OpenShut
import Derived.Lib.SmallJoins
import Derived.LaidLaws
import Derived.LaidHandle
import Derived.RowKitTokens
import Derived.ChangeVars
import Derived.SevenTiedAt
namespace Go.Proofs.YtiojagjejddocaaGreatDoor.lotsSums
open Go.ChangeShapes Go.WideShapes Go.ChangeAt Go.RowKit Go.Sq Go.Joins
set_option linter.unusedVariables false

theorem own : ownKnob Tryz.prog.godebug = none := by kernel_rfl

theorem g0 : Tryz.prog.globalNamed "batchline/product.spans" = some 0 := by kernel_rfl
theorem g0t : (Tryz.prog.globals[0]?).map (·.type) = some 140 := by kernel_rfl
theorem cellsT : Tryz.prog.cellsOf 140 = 8 := by kernel_rfl
theorem cellsE : Tryz.prog.cellsOf 139 = 2 := by kernel_rfl
theorem cellsI : Tryz.prog.cellsOf 3 = 1 := by kernel_rfl
theorem int_of_trod {H : Type} {enc : TypeId × Value → H} {P : Program} {w : World} {base : Nat} {sp : Nat → Bool} {held : Bool} {fuel : Nat} {t : TypeId} {k : IntKind} {c : Value} {y : DataW H × List MemPlace}
    (ht : P.underlying t = some (.int k)) (h : DataW.trod enc P w base sp held fuel t [c] = some y) : ∃ n, c = .int k n ∧ y = (.lit (.int k n), []) := by
  cases fuel with
  | zero => simp [DataW.trod] at h
  | succ fuel =>
    cases c <;> simp [DataW.trod, ht] at h
    rename_i k' n
    obtain ⟨⟨rfl, _⟩, rfl⟩ := h
    exact ⟨n, rfl, rfl⟩
theorem span_of_trod {H : Type} {enc : TypeId × Value → H} {w : World} {base : Nat} {sp : Nat → Bool} {held : Bool} {fuel : Nat} {c d : Value} {y : DataW H × List MemPlace}
    (h : DataW.trod enc Tryz.prog w base sp held fuel 139 [c, d] = some y) : ∃ m n, c = .int .i64 m ∧ d = .int .i64 n ∧ y = (.agg [.lit (.int .i64 m), .lit (.int .i64 n)], []) := by
  cases fuel with
  | zero => simp [DataW.trod] at h
  | succ fuel =>
    simp only [DataW.trod, Tryz.underlying139, cellsE, List.mapM_cons, List.mapM_nil, cellsI] at h
    simp only [List.length_cons, List.length_nil, Nat.zero_add, Nat.reduceAdd, if_true, Option.bind_eq_bind, Option.map_eq_some_iff, Option.bind_eq_some_iff, Option.pure_def, Option.some.injEq] at h
    obtain ⟨xs, ⟨y0, h0, l, ⟨y1, h1, l', rfl, rfl⟩, rfl⟩, rfl⟩ := h
    obtain ⟨m, rfl, rfl⟩ := int_of_trod Tryz.underlying3 h0
    obtain ⟨n, rfl, rfl⟩ := int_of_trod Tryz.underlying3 h1
    exact ⟨m, n, rfl, rfl, rfl⟩
def cells8 : Array Value := #[.int .i64 400, .int .i64 1200, .int .i64 0, .int .i64 2000, .int .i64 0, .int .i64 5000, .int .i64 1, .int .i64 2000]
theorem cells_of_laid {W : World} (h : laidMet Tryz.prog Rows.lotsSumsRow.laid W) : W.var? Tryz.prog "batchline/product.spans" = some cells8 := by
  obtain ⟨ps, ⟨g, t, cs, fuel, p, q, hg, ht, hvar, hd, _, _⟩, _⟩ := h
  obtain rfl := Option.some.inj (g0.symm.trans hg)
  obtain rfl := Option.some.inj (g0t.symm.trans ht)
  rw [hvar]
  congr 1
  obtain ⟨l⟩ := cs
  cases fuel with
  | zero => simp [DataW.trod] at hd
  | succ fuel =>
    simp only [DataW.trod, Tryz.underlying140, cellsT, cellsE] at hd
    split at hd
    · rename_i hl
      obtain ⟨c0, c1, c2, c3, c4, c5, c6, c7, rfl⟩ : ∃ c0 c1 c2 c3 c4 c5 c6 c7, l = [c0, c1, c2, c3, c4, c5, c6, c7] := by
        match l, hl with
        | [c0, c1, c2, c3, c4, c5, c6, c7], _ => exact ⟨c0, c1, c2, c3, c4, c5, c6, c7, rfl⟩
      have e : List.range 4 = [0, 1, 2, 3] := rfl
      rw [e] at hd
      simp only [Option.map_eq_some_iff, List.mapM_cons, List.mapM_nil, Option.bind_eq_bind, Option.bind_eq_some_iff, Option.pure_def, Option.some.injEq] at hd
      obtain ⟨xs, ⟨y0, h0, _, ⟨y1, h1, _, ⟨y2, h2, _, ⟨y3, h3, _, rfl, rfl⟩, rfl⟩, rfl⟩, rfl⟩, hx⟩ := hd
      obtain ⟨m0, n0, rfl, rfl, rfl⟩ := span_of_trod h0
      obtain ⟨m1, n1, rfl, rfl, rfl⟩ := span_of_trod h1
      obtain ⟨m2, n2, rfl, rfl, rfl⟩ := span_of_trod h2
      obtain ⟨m3, n3, rfl, rfl, rfl⟩ := span_of_trod h3
      simp [Rows.laid_batchline_product_spans] at hx
      obtain ⟨⟨⟨rfl, rfl⟩, ⟨rfl, rfl⟩, ⟨rfl, rfl⟩, rfl, rfl⟩, _⟩ := hx
      rfl
    · cases hd
theorem glob_ok {W : World} (h : laidMetH Tryz.prog Rows.lotsSumsRow.laid W) : GlobOk (fun g => g < W.heap.size) W := by
  have hv := cells_of_laid (h : laidMet Tryz.prog Rows.lotsSumsRow.laid W)
  have hc := World.var?_cell g0 hv
  intro p hp
  have hp' := List.mem_singleton.1 hp
  subst hp'
  refine ⟨?_, cells8.toList, ?_, fun j u hj => (hc j).trans (by rw [← Array.getElem?_toList]; exact hj)⟩
  · have h0 := hc 0
    unfold World.cell? at h0
    rcases Nat.lt_or_ge 0 W.heap.size with h1 | h1
    · exact h1
    · rw [Array.getElem?_eq_none h1] at h0; cases h0
  · exact ⟨[.int .i64 400, .int .i64 1200], _, rfl, ⟨[_], [_], rfl, rfl, rfl⟩, [.int .i64 0, .int .i64 2000], _, rfl, ⟨[_], [_], rfl, rfl, rfl⟩, [.int .i64 0, .int .i64 5000], [.int .i64 1, .int .i64 2000], rfl, ⟨[_], [_], rfl, rfl, rfl⟩, ⟨[_], [_], rfl, rfl, rfl⟩⟩
noncomputable def laidWorld (os : Os) : World :=
  { World.holding Tryz.prog os ⟨#[], #[], []⟩ with heap := (World.holding Tryz.prog os ⟨#[], #[], []⟩).heap.modify 0 fun
      | .cells _ t frozen => .cells cells8 t frozen
      | o => o }
theorem laidWorld_met (os : Os) (args : Array Value) : laidMetH Tryz.prog Rows.lotsSumsRow.laid ((laidWorld os).forCall (fun _ _ => 0) ⟨#[], args, []⟩).memory :=
  (laidMet_of_run 8 (ps := (List.range 8).map fun i => .cell 0 i) (by kernel_rfl) (by kernel_rfl) (by kernel_rfl) : laidMet Tryz.prog Rows.lotsSumsRow.laid ((laidWorld os).forCall (fun _ _ => 0) ⟨#[], args, []⟩).memory)
theorem laid_heap {w w' : World} (hh : w.heap = w'.heap) (h : laidMetH Tryz.prog Rows.lotsSumsRow.laid w) : laidMetH Tryz.prog Rows.lotsSumsRow.laid w' :=
  laidMet.of_heap hh (h : laidMet Tryz.prog Rows.lotsSumsRow.laid w)

set_option maxRecDepth 100000 in
theorem lifted (os : Os) (started : os.Started) (H : Type) (enc : TypeId × Value → H) :
    ReturnsInHanded {} Tryz.checked os 4 .any (fun w args => (Rows.lotsSumsSpec.pre enc Tryz.prog Tryz.f4 [] false w args ∧ laidMetH Tryz.prog Rows.lotsSumsRow.laid w) ∧ sizedMet enc Tryz.prog Tryz.f4 (OpenSpec.ofChange Rows.lotsSumsSpec) false w args) (Rows.lotsSumsSpec.post enc Tryz.prog Tryz.f4 false true false false) := by
  refine returnsInHanded_of_change_and (C := Tryz.checked) (X := fun w _ => laidMetH Tryz.prog Rows.lotsSumsRow.laid w) (fun _ _ _ hh h => laid_heap hh h) own started (by kernel_rfl) Tryz.func4
    (ChangeSpec.witness_at (enc := enc) (C := Tryz.checked) (os := os) (X := fun w _ => laidMetH Tryz.prog Rows.lotsSumsRow.laid w) false (laidWorld os) #[.slice none 0 0, .int .u8 0] 8 rfl (by kernel_rfl) (by kernel_rfl) (by kernel_rfl) (by kernel_rfl) (by kernel_rfl)
      (laidWorld_met os #[.slice none 0 0, .int .u8 0])) ?_
  intro W base args ds gs before hval0 hW hcnd _ hL _
  have hval : ∀ (j : Nat) t v, Tryz.f4.params[j]? = some t → args[j]? = some v → Value.okWide Tryz.prog W .any base t v := hval0
  have hW' := hW
  obtain ⟨p, q, hA0, hV, rfl, hfz, hnd⟩ := hW
  have hA : DataW.TrodAll enc Tryz.prog W 0 (fun _ => true) true Tryz.f4.params.toList args.toList ds p := hA0
  rw [Tryz.params4] at hA hval
  obtain ⟨v0, vs0, d0, ds0, p0, q0, hargs, rfl, rfl, h0, r0⟩ := trodAll_cons hA
  obtain ⟨v1, vs1, d1, ds1, p1, q1, rfl, rfl, rfl, h1, r1⟩ := trodAll_cons r0
  obtain ⟨rfl, rfl, rfl⟩ := trodAll_nil r1
  obtain rfl : args = #[v0, v1] := by cases args; simp_all
  obtain ⟨rfl, rfl⟩ := trodVars_none hV
  obtain ⟨l0, D0, n0, b0⟩ := den_ints Tryz.underlying22 Tryz.underlying3 (by kernel_rfl) (hval 0 22 v0 rfl rfl) h0
  obtain ⟨a1, rfl, rfl, rfl, w1⟩ := open_int Tryz.underlying5 (hval 1 5 v1 rfl rfl) h1
  have b1 : (0 : Int) ≤ a1 ∧ a1 ≤ 255 := by simpa [Lit.wf, IntKind.min, IntKind.max, IntKind.signed, IntKind.bits] using w1
  exact law_post (e := fn_law29_LotsSums) (x := (l0, a1)) (y := true) (by kernel_rfl) (by kernel_rfl) (by kernel_rfl) Tryz.underlying4 rfl rfl hW' ok_law29_LotsSums rfl rfl rfl rfl (sums_true b0 b1) rfl
    (fun i v hv => by
      rcases i with _ | _ | i
      · have hq := Option.some.inj (show some _ = some v from hv)
        subst hq
        show Den _ _ _ _ (.v (.sl (.int .i64)) l0) _
        exact .v D0
      · have hq := Option.some.inj (show some _ = some v from hv)
        subst hq
        show Den _ _ _ _ (.v (.int .u8) a1) _
        exact .v ⟨_, rfl, rfl⟩
      · simp at hv) (glob_ok hL)

theorem row : Rows.LotsSumsSaid :=
  OpenClaim.holds_of_wide 4 Tryz.f4 rfl rfl rfl rfl rfl rfl rfl ⟨rfl, rfl, rfl, rfl, rfl⟩ rfl rfl rfl rfl rfl (by kernel_rfl) Tryz.func4 (by kernel_rfl)
    (of_decide_eq_true (by kernel_rfl)) (by unfold Func.isWrapper; first | (rw [if_pos (by decide +kernel)]; kernel_rfl) | (rw [if_neg (by decide +kernel)]; exact ⟨rfl, rfl⟩))
    (fun os started H enc _ => lifted os started H enc)

theorem wants : ∀ t, t ∈ [22, 5] → Tryz.prog.wantsStandIn t = false := by
  intro t ht
  simp only [List.mem_cons, List.not_mem_nil, or_false] at ht
  rcases ht with rfl | rfl <;> kernel_rfl
theorem proved : Rows.LotsSumsCardSaid :=
  Claim7.holds_tied_plain_at .later [] [.data] true (true, "6682dd39008aadf2d100150407e15ea0a0aea1d7fab80817ede493e0f81abb5c") false
    row (fun _ h => by cases h) (by kernel_rfl) (fun _ h => by cases h) lotsSums_row_tie rfl ⟨rfl, rfl⟩ (by kernel_rfl) rfl
    (fun f fn hf hfn => by
      obtain rfl : f = 4 := Option.some.inj ((show Tryz.prog.funcNamed Rows.lotsSumsRow.func = some 4 by kernel_rfl).symm.trans hf) |>.symm
      obtain rfl : fn = Tryz.f4 := (Option.some.inj (Tryz.func4.symm.trans hfn)).symm
      exact ⟨by kernel_rfl, fun j t ht => wants t (by
        rw [Tryz.params4] at ht
        have := Array.mem_of_getElem? ht
        simpa using this)⟩)
    (by kernel_rfl)
end Go.Proofs.YtiojagjejddocaaGreatDoor.lotsSums
