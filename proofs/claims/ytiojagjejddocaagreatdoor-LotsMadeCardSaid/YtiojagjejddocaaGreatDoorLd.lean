/- The listed package variables: a world that holds them; what such a world says of those that are read. No condition. -/
import Derived.Test.YtiojagjejddocaaGreatDoorRows
import Derived.Test.YtiojagjejddocaaGreatDoorSqZ
import Derived.LaidLaws
import Derived.LaidHandle
namespace Go.Proofs.YtiojagjejddocaaGreatDoor.Ld
open Go Go.ChangeShapes Go.WideShapes Go.ChangeAt Go.RowKit Go.Sq
set_option linter.unusedVariables false
def setC (cs : Array Value) : Obj → Obj
  | .cells _ t fz => .cells cs t fz
  | o => o
def flatW : Nat → DataW Unit → List Value
  | 0, _ => []
  | _ + 1, .lit (.int k v) => [.int k v]
  | n + 1, .agg l => l.flatMap (flatW n)
  | _, _ => []
noncomputable def laidWorld (os : Os) : World :=
  { World.holding Tryz.prog os ⟨#[], #[], []⟩ with heap := ((World.holding Tryz.prog os ⟨#[], #[], []⟩).heap).modify 0 (setC (flatW 6 Rows.laid_batchline_product_spans).toArray) }
theorem laidWorld_met (os : Os) (args : Array Value) : laidMetH Tryz.prog Rows.lotsMadeRow.laid ((laidWorld os).forCall (fun _ _ => 0) ⟨#[], args, []⟩).memory :=
  (laidMet_of_run' 12 (by kernel_rfl) (by kernel_rfl) : laidMet Tryz.prog Rows.lotsMadeRow.laid ((laidWorld os).forCall (fun _ _ => 0) ⟨#[], args, []⟩).memory)
theorem laid_heap {w w' : World} (hh : w.heap = w'.heap) (h : laidMetH Tryz.prog Rows.lotsMadeRow.laid w) : laidMetH Tryz.prog Rows.lotsMadeRow.laid w' :=
  laidMet.of_heap hh (h : laidMet Tryz.prog Rows.lotsMadeRow.laid w)
theorem heap_of {P : Program} {W : World} {n : String} {g : Nat} {arr : Array Value} (hn : P.globalNamed n = some g) (hv : W.var? P n = some arr) : ∃ t fz, W.heap[g]? = some (.cells arr t fz) := by
  unfold World.var? at hv
  rw [hn] at hv
  have hv' : (match W.heap[g]? with | some (.cells cs _ _) => some cs | _ => none) = some arr := hv
  split at hv'
  · rename_i cs t fz he
    injection hv' with hv'; subst hv'
    exact ⟨t, fz, he⟩
  · cases hv'
theorem glob_of {P : Program} {W : World} {n : String} {g : Nat} {es : List Value} {τ : Ty} {z : τ.den} (hn : P.globalNamed n = some g) (hv : W.var? P n = some es.toArray) (hr : RdC (fun g => g < W.heap.size) W τ z es) :
    g < W.heap.size ∧ ∃ es, RdC (fun g => g < W.heap.size) W τ z es ∧ (∀ (j : Nat) (u : Value), es[j]? = some u → W.cell? ⟨g, j, none⟩ = some u) ∧ ∃ t fz, W.heap[g]? = some (.cells es.toArray t fz) := by
  obtain ⟨t, fz, he⟩ := heap_of hn hv
  have hc := World.var?_cell hn hv
  refine ⟨?_, es, hr, fun j u hj => (hc j).trans (by simpa using hj), t, fz, he⟩
  rcases Nat.lt_or_ge g W.heap.size with h1 | h1
  · exact h1
  · rw [Array.getElem?_eq_none h1] at he; cases he
abbrev IsL (W : World) (n : String) (d : DataW Unit) : Prop := ∃ (g : Nat) (t : TypeId) (cs : Array Value) (fuel : Nat) (p : List MemPlace), Tryz.prog.globalNamed n = some g ∧ (Tryz.prog.globals[g]?).map (·.type) = some t ∧ W.var? Tryz.prog n = some cs ∧ DataW.trod (fun _ => ()) Tryz.prog W 0 (fun _ => true) false fuel t cs.toList = some (d, p)
theorem gn_product_spans : Tryz.prog.globalNamed "batchline/product.spans" = some 0 := by kernel_rfl
theorem gt_product_spans : (Tryz.prog.globals[0]?).map (·.type) = some 140 := by kernel_rfl
theorem cellsT : Tryz.prog.cellsOf 140 = 8 := by kernel_rfl
theorem cellsE : Tryz.prog.cellsOf 139 = 2 := by kernel_rfl
theorem cellsI : Tryz.prog.cellsOf 3 = 1 := by kernel_rfl
theorem int_of_trod {H : Type} {enc : TypeId × Value → H} {P : Program} {w : World} {base : Nat} {sp : Nat → Bool} {held : Bool} {fuel : Nat} {t : TypeId} {k : IntKind} {c : Value} {y : DataW H × List MemPlace}
    (ht : P.underlying t = some (.int k)) (h : DataW.trod enc P w base sp held fuel t [c] = some y) : ∃ n, c = .int k n ∧ y = (.lit (.int k n), []) := by
  cases fuel with
  | zero => simp [DataW.trod] at h
  | succ fuel =>
    cases c <;> simp [DataW.trod, ht] at h
    rename_i k' n
    obtain ⟨⟨rfl, _⟩, rfl⟩ := h
    exact ⟨n, rfl, rfl⟩
theorem span_of_trod {H : Type} {enc : TypeId × Value → H} {w : World} {base : Nat} {sp : Nat → Bool} {held : Bool} {fuel : Nat} {c d : Value} {y : DataW H × List MemPlace}
    (h : DataW.trod enc Tryz.prog w base sp held fuel 139 [c, d] = some y) : ∃ m n, c = .int .i64 m ∧ d = .int .i64 n ∧ y = (.agg [.lit (.int .i64 m), .lit (.int .i64 n)], []) := by
  cases fuel with
  | zero => simp [DataW.trod] at h
  | succ fuel =>
    simp only [DataW.trod, Tryz.underlying139, cellsE, List.mapM_cons, List.mapM_nil, cellsI] at h
    simp only [List.length_cons, List.length_nil, Nat.zero_add, Nat.reduceAdd, if_true, Option.bind_eq_bind, Option.map_eq_some_iff, Option.bind_eq_some_iff, Option.pure_def, Option.some.injEq] at h
    obtain ⟨xs, ⟨y0, h0, l, ⟨y1, h1, l', rfl, rfl⟩, rfl⟩, rfl⟩ := h
    obtain ⟨m, rfl, rfl⟩ := int_of_trod Tryz.underlying3 h0
    obtain ⟨n, rfl, rfl⟩ := int_of_trod Tryz.underlying3 h1
    exact ⟨m, n, rfl, rfl, rfl⟩
def cells8 : Array Value := #[.int .i64 400, .int .i64 1200, .int .i64 0, .int .i64 2000, .int .i64 0, .int .i64 5000, .int .i64 1, .int .i64 2000]
theorem cells_of_laid {W : World} (h : IsL W "batchline/product.spans" Rows.laid_batchline_product_spans) : W.var? Tryz.prog "batchline/product.spans" = some cells8 := by
  obtain ⟨g, t, cs, fuel, p, hg, ht, hvar, hd⟩ := h
  obtain rfl := Option.some.inj (gn_product_spans.symm.trans hg)
  obtain rfl := Option.some.inj (gt_product_spans.symm.trans ht)
  rw [hvar]
  congr 1
  obtain ⟨l⟩ := cs
  cases fuel with
  | zero => simp [DataW.trod] at hd
  | succ fuel =>
    simp only [DataW.trod, Tryz.underlying140, cellsT, cellsE] at hd
    split at hd
    · rename_i hl
      obtain ⟨c0, c1, c2, c3, c4, c5, c6, c7, rfl⟩ : ∃ c0 c1 c2 c3 c4 c5 c6 c7, l = [c0, c1, c2, c3, c4, c5, c6, c7] := by
        match l, hl with
        | [c0, c1, c2, c3, c4, c5, c6, c7], _ => exact ⟨c0, c1, c2, c3, c4, c5, c6, c7, rfl⟩
      have e : List.range 4 = [0, 1, 2, 3] := rfl
      rw [e] at hd
      simp only [Option.map_eq_some_iff, List.mapM_cons, List.mapM_nil, Option.bind_eq_bind, Option.bind_eq_some_iff, Option.pure_def, Option.some.injEq] at hd
      obtain ⟨xs, ⟨y0, h0, _, ⟨y1, h1, _, ⟨y2, h2, _, ⟨y3, h3, _, rfl, rfl⟩, rfl⟩, rfl⟩, rfl⟩, hx⟩ := hd
      obtain ⟨m0, n0, rfl, rfl, rfl⟩ := span_of_trod h0
      obtain ⟨m1, n1, rfl, rfl, rfl⟩ := span_of_trod h1
      obtain ⟨m2, n2, rfl, rfl, rfl⟩ := span_of_trod h2
      obtain ⟨m3, n3, rfl, rfl, rfl⟩ := span_of_trod h3
      simp [Rows.laid_batchline_product_spans] at hx
      obtain ⟨⟨⟨rfl, rfl⟩, ⟨rfl, rfl⟩, ⟨rfl, rfl⟩, rfl, rfl⟩, _⟩ := hx
      rfl
    · cases hd
theorem glob_ok {W : World} (h : laidMetH Tryz.prog Rows.lotsMadeRow.laid W) : GlobOk (fun g => g < W.heap.size) W := by
  have h' : laidMet Tryz.prog Rows.lotsMadeRow.laid W := h
  obtain ⟨ps, l0, _⟩ := h'
  obtain ⟨g0, t0, cs0, fuel0, p0, _, ha0, hb0, hc0, hd0, l1, _⟩ := l0
  intro p hp
  unfold globs at hp
  simp only [List.mem_cons, List.not_mem_nil, or_false] at hp
  rcases hp with rfl
  · exact (fun h => glob_of (τ := .pair (.pair (.int .i64) (.int .i64)) (.pair (.pair (.int .i64) (.int .i64)) (.pair (.pair (.int .i64) (.int .i64)) (.pair (.int .i64) (.int .i64))))) (z := (((400 : Int), (1200 : Int)), (((0 : Int), (2000 : Int)), (((0 : Int), (5000 : Int)), ((1 : Int), (2000 : Int)))))) (es := cells8.toList) gn_product_spans (cells_of_laid h) ⟨[.int .i64 400, .int .i64 1200], _, rfl, ⟨[_], [_], rfl, rfl, rfl⟩, [.int .i64 0, .int .i64 2000], _, rfl, ⟨[_], [_], rfl, rfl, rfl⟩, [.int .i64 0, .int .i64 5000], [.int .i64 1, .int .i64 2000], rfl, ⟨[_], [_], rfl, rfl, rfl⟩, ⟨[_], [_], rfl, rfl, rfl⟩⟩) ⟨_, _, _, _, _, ha0, hb0, hc0, hd0⟩
end Go.Proofs.YtiojagjejddocaaGreatDoor.Ld
