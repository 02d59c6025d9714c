/- The listed package variables: a world that holds them; what such a world says of those that are read. No condition. -/
import Derived.Test.YtihbfecdccamoaaGreatDoorRows
import Derived.Test.YtihbfecdccamoaaGreatDoorSqLB
import Derived.LaidLaws
import Derived.LaidHandle
namespace Go.Proofs.YtihbfecdccamoaaGreatDoor.Ld
open Go Go.ChangeShapes Go.WideShapes Go.ChangeAt Go.RowKit Go.Sq
set_option linter.unusedVariables false
def setC (cs : Array Value) : Obj → Obj
  | .cells _ t fz => .cells cs t fz
  | o => o
def flatW : Nat → DataW Unit → List Value
  | 0, _ => []
  | _ + 1, .lit (.int k v) => [.int k v]
  | n + 1, .agg l => l.flatMap (flatW n)
  | _, _ => []
noncomputable def laidWorld (os : Os) : World :=
  { World.holding Tryz.prog os ⟨#[], #[], []⟩ with heap := (((((((((((World.holding Tryz.prog os ⟨#[], #[], []⟩).heap).modify 5 (setC (flatW 6 Rows.laid_math_bits_deBruijn32tab).toArray)).modify 6 (setC (flatW 6 Rows.laid_math_bits_deBruijn64tab).toArray)).modify 2 (setC (flatW 6 Rows.laid_internal_strconv_uint64pow10).toArray)).modify 8 (setC (flatW 6 Rows.laid_unicode_utf8_acceptRanges).toArray)).modify 4 (setC #[.iface 135 (.pointer (some ⟨(World.holding Tryz.prog os ⟨#[], #[], []⟩).heap.size + 0, 0, none⟩))])).modify 3 (setC #[.iface 135 (.pointer (some ⟨(World.holding Tryz.prog os ⟨#[], #[], []⟩).heap.size + 1, 0, none⟩))])).modify 0 (setC (flatW 6 Rows.laid_batchline_product_spans).toArray)).modify 7 (setC (flatW 6 Rows.laid_unicode_utf8_first).toArray)).push (.cells #[.string ⟨⟨[118, 97, 108, 117, 101, 32, 111, 117, 116, 32, 111, 102, 32, 114, 97, 110, 103, 101]⟩⟩] 137 (0, 0))).push (.cells #[.string ⟨⟨[105, 110, 118, 97, 108, 105, 100, 32, 115, 121, 110, 116, 97, 120]⟩⟩] 137 (0, 0)) }
theorem laidWorld_met (os : Os) (args : Array Value) : laidMetH Tryz.prog Rows.productAnswersRow.laid ((laidWorld os).forCall (fun _ _ => 0) ⟨#[], args, []⟩).memory :=
  (laidMet_of_run' 12 (by kernel_rfl) (by kernel_rfl) : laidMet Tryz.prog Rows.productAnswersRow.laid ((laidWorld os).forCall (fun _ _ => 0) ⟨#[], args, []⟩).memory)
theorem laid_heap {w w' : World} (hh : w.heap = w'.heap) (h : laidMetH Tryz.prog Rows.productAnswersRow.laid w) : laidMetH Tryz.prog Rows.productAnswersRow.laid w' :=
  laidMet.of_heap hh (h : laidMet Tryz.prog Rows.productAnswersRow.laid w)
theorem heap_of {P : Program} {W : World} {n : String} {g : Nat} {arr : Array Value} (hn : P.globalNamed n = some g) (hv : W.var? P n = some arr) : ∃ t fz, W.heap[g]? = some (.cells arr t fz) := by
  unfold World.var? at hv
  rw [hn] at hv
  have hv' : (match W.heap[g]? with | some (.cells cs _ _) => some cs | _ => none) = some arr := hv
  split at hv'
  · rename_i cs t fz he
    injection hv' with hv'; subst hv'
    exact ⟨t, fz, he⟩
  · cases hv'
theorem glob_of {P : Program} {W : World} {n : String} {g : Nat} {es : List Value} {τ : Ty} {z : τ.den} (hn : P.globalNamed n = some g) (hv : W.var? P n = some es.toArray) (hr : RdC (fun g => g < W.heap.size) W τ z es) :
    g < W.heap.size ∧ ∃ es, RdC (fun g => g < W.heap.size) W τ z es ∧ (∀ (j : Nat) (u : Value), es[j]? = some u → W.cell? ⟨g, j, none⟩ = some u) ∧ ∃ t fz, W.heap[g]? = some (.cells es.toArray t fz) := by
  obtain ⟨t, fz, he⟩ := heap_of hn hv
  have hc := World.var?_cell hn hv
  refine ⟨?_, es, hr, fun j u hj => (hc j).trans (by simpa using hj), t, fz, he⟩
  rcases Nat.lt_or_ge g W.heap.size with h1 | h1
  · exact h1
  · rw [Array.getElem?_eq_none h1] at he; cases he
abbrev IsL (W : World) (n : String) (d : DataW Unit) : Prop := ∃ (g : Nat) (t : TypeId) (cs : Array Value) (fuel : Nat) (p : List MemPlace), Tryz.prog.globalNamed n = some g ∧ (Tryz.prog.globals[g]?).map (·.type) = some t ∧ W.var? Tryz.prog n = some cs ∧ DataW.trod (fun _ => ()) Tryz.prog W 0 (fun _ => true) false fuel t cs.toList = some (d, p)
theorem err_of {W : World} {n : String} {g0 : Nat} {nm : String} {d : DataW Unit} (hn : Tryz.prog.globalNamed n = some g0) (hty : (Tryz.prog.globals[g0]?).map (·.type) = some 74) (h : IsL W n (.iface nm d)) :
    g0 < W.heap.size ∧ ∃ es, RdC (fun g => g < W.heap.size) W .err true es ∧ (∀ (j : Nat) (u : Value), es[j]? = some u → W.cell? ⟨g0, j, none⟩ = some u) ∧ ∃ t fz, W.heap[g0]? = some (.cells es.toArray t fz) := by
  obtain ⟨g, t, cs, fuel, p, hg, ht, hvar, hd⟩ := h
  obtain rfl := Option.some.inj (hn.symm.trans hg)
  obtain rfl := Option.some.inj (hty.symm.trans ht)
  obtain ⟨_, u, v, hcs, _, _⟩ := iface_of_trod Tryz.underlying74 hd
  exact glob_of (es := [.iface u v]) hn (by rw [hvar, ← hcs]) ⟨_, rfl, rfl, ⟨_, _, rfl⟩⟩
theorem gn_product_spans : Tryz.prog.globalNamed "batchline/product.spans" = some 0 := by kernel_rfl
theorem gt_product_spans : (Tryz.prog.globals[0]?).map (·.type) = some 60 := by kernel_rfl
theorem cellsT : Tryz.prog.cellsOf 60 = 8 := by kernel_rfl
theorem cellsE : Tryz.prog.cellsOf 59 = 2 := by kernel_rfl
theorem cellsI : Tryz.prog.cellsOf 3 = 1 := by kernel_rfl
theorem int_of_trod {H : Type} {enc : TypeId × Value → H} {P : Program} {w : World} {base : Nat} {sp : Nat → Bool} {held : Bool} {fuel : Nat} {t : TypeId} {k : IntKind} {c : Value} {y : DataW H × List MemPlace}
    (ht : P.underlying t = some (.int k)) (h : DataW.trod enc P w base sp held fuel t [c] = some y) : ∃ n, c = .int k n ∧ y = (.lit (.int k n), []) := by
  cases fuel with
  | zero => simp [DataW.trod] at h
  | succ fuel =>
    cases c <;> simp [DataW.trod, ht] at h
    rename_i k' n
    obtain ⟨⟨rfl, _⟩, rfl⟩ := h
    exact ⟨n, rfl, rfl⟩
theorem span_of_trod {H : Type} {enc : TypeId × Value → H} {w : World} {base : Nat} {sp : Nat → Bool} {held : Bool} {fuel : Nat} {c d : Value} {y : DataW H × List MemPlace}
    (h : DataW.trod enc Tryz.prog w base sp held fuel 59 [c, d] = some y) : ∃ m n, c = .int .i64 m ∧ d = .int .i64 n ∧ y = (.agg [.lit (.int .i64 m), .lit (.int .i64 n)], []) := by
  cases fuel with
  | zero => simp [DataW.trod] at h
  | succ fuel =>
    simp only [DataW.trod, Tryz.underlying59, cellsE, List.mapM_cons, List.mapM_nil, cellsI] at h
    simp only [List.length_cons, List.length_nil, Nat.zero_add, Nat.reduceAdd, if_true, Option.bind_eq_bind, Option.map_eq_some_iff, Option.bind_eq_some_iff, Option.pure_def, Option.some.injEq] at h
    obtain ⟨xs, ⟨y0, h0, l, ⟨y1, h1, l', rfl, rfl⟩, rfl⟩, rfl⟩ := h
    obtain ⟨m, rfl, rfl⟩ := int_of_trod Tryz.underlying3 h0
    obtain ⟨n, rfl, rfl⟩ := int_of_trod Tryz.underlying3 h1
    exact ⟨m, n, rfl, rfl, rfl⟩
def cells8 : Array Value := #[.int .i64 400, .int .i64 1200, .int .i64 0, .int .i64 2000, .int .i64 0, .int .i64 5000, .int .i64 1, .int .i64 2000]
theorem cells_of_laid {W : World} (h : IsL W "batchline/product.spans" Rows.laid_batchline_product_spans) : W.var? Tryz.prog "batchline/product.spans" = some cells8 := by
  obtain ⟨g, t, cs, fuel, p, hg, ht, hvar, hd⟩ := h
  obtain rfl := Option.some.inj (gn_product_spans.symm.trans hg)
  obtain rfl := Option.some.inj (gt_product_spans.symm.trans ht)
  rw [hvar]
  congr 1
  obtain ⟨l⟩ := cs
  cases fuel with
  | zero => simp [DataW.trod] at hd
  | succ fuel =>
    simp only [DataW.trod, Tryz.underlying60, cellsT, cellsE] at hd
    split at hd
    · rename_i hl
      obtain ⟨c0, c1, c2, c3, c4, c5, c6, c7, rfl⟩ : ∃ c0 c1 c2 c3 c4 c5 c6 c7, l = [c0, c1, c2, c3, c4, c5, c6, c7] := by
        match l, hl with
        | [c0, c1, c2, c3, c4, c5, c6, c7], _ => exact ⟨c0, c1, c2, c3, c4, c5, c6, c7, rfl⟩
      have e : List.range 4 = [0, 1, 2, 3] := rfl
      rw [e] at hd
      simp only [Option.map_eq_some_iff, List.mapM_cons, List.mapM_nil, Option.bind_eq_bind, Option.bind_eq_some_iff, Option.pure_def, Option.some.injEq] at hd
      obtain ⟨xs, ⟨y0, h0, _, ⟨y1, h1, _, ⟨y2, h2, _, ⟨y3, h3, _, rfl, rfl⟩, rfl⟩, rfl⟩, rfl⟩, hx⟩ := hd
      obtain ⟨m0, n0, rfl, rfl, rfl⟩ := span_of_trod h0
      obtain ⟨m1, n1, rfl, rfl, rfl⟩ := span_of_trod h1
      obtain ⟨m2, n2, rfl, rfl, rfl⟩ := span_of_trod h2
      obtain ⟨m3, n3, rfl, rfl, rfl⟩ := span_of_trod h3
      simp [Rows.laid_batchline_product_spans] at hx
      obtain ⟨⟨⟨rfl, rfl⟩, ⟨rfl, rfl⟩, ⟨rfl, rfl⟩, rfl, rfl⟩, _⟩ := hx
      rfl
    · cases hd
theorem gn_strconv_uint64pow10 : Tryz.prog.globalNamed "internal/strconv.uint64pow10" = some 2 := by kernel_rfl
theorem gt_strconv_uint64pow10 : (Tryz.prog.globals[2]?).map (·.type) = some 104 := by kernel_rfl
theorem tab_of {W : World} (h : IsL W "internal/strconv.uint64pow10" Rows.laid_internal_strconv_uint64pow10) : W.var? Tryz.prog "internal/strconv.uint64pow10" = some (Lib.pow10Tab.map fun z => Value.int .u64 z).toArray := by
  obtain ⟨g, t, cs, fuel, p, hg, ht, hvar, hd⟩ := h
  obtain rfl := Option.some.inj (gn_strconv_uint64pow10.symm.trans hg)
  obtain rfl := Option.some.inj (gt_strconv_uint64pow10.symm.trans ht)
  have hd' : DataW.trod (fun _ => ()) Tryz.prog W 0 (fun _ => true) false fuel 104 cs.toList = some (Lib.tabData .u64 Lib.pow10Tab, p) := hd
  rw [hvar, ← Lib.cells_of_tab Tryz.underlying104 Tryz.underlying94 (by kernel_rfl) (by kernel_rfl) hd']
theorem gn_strconv_ErrSyntax : Tryz.prog.globalNamed "strconv.ErrSyntax" = some 3 := by kernel_rfl
theorem gt_strconv_ErrSyntax : (Tryz.prog.globals[3]?).map (·.type) = some 74 := by kernel_rfl
theorem gn_strconv_ErrRange : Tryz.prog.globalNamed "strconv.ErrRange" = some 4 := by kernel_rfl
theorem gt_strconv_ErrRange : (Tryz.prog.globals[4]?).map (·.type) = some 74 := by kernel_rfl
theorem glob_ok {W : World} (h : laidMetH Tryz.prog Rows.productAnswersRow.laid W) : GlobOk (fun g => g < W.heap.size) W := by
  have h' : laidMet Tryz.prog Rows.productAnswersRow.laid W := h
  obtain ⟨ps, l0, _⟩ := h'
  obtain ⟨_, _, _, _, _, _, _, _, _, _, l1, _⟩ := l0
  obtain ⟨_, _, _, _, _, _, _, _, _, _, l2, _⟩ := l1
  obtain ⟨g2, t2, cs2, fuel2, p2, _, ha2, hb2, hc2, hd2, l3, _⟩ := l2
  obtain ⟨_, _, _, _, _, _, _, _, _, _, l4, _⟩ := l3
  obtain ⟨g4, t4, cs4, fuel4, p4, _, ha4, hb4, hc4, hd4, l5, _⟩ := l4
  obtain ⟨g5, t5, cs5, fuel5, p5, _, ha5, hb5, hc5, hd5, l6, _⟩ := l5
  obtain ⟨g6, t6, cs6, fuel6, p6, _, ha6, hb6, hc6, hd6, l7, _⟩ := l6
  intro p hp
  unfold globs at hp
  simp only [List.mem_cons, List.not_mem_nil, or_false] at hp
  rcases hp with rfl | rfl | rfl | rfl
  · exact (fun h => glob_of (τ := .pair (.pair (.int .i64) (.int .i64)) (.pair (.pair (.int .i64) (.int .i64)) (.pair (.pair (.int .i64) (.int .i64)) (.pair (.int .i64) (.int .i64))))) (z := (((400 : Int), (1200 : Int)), (((0 : Int), (2000 : Int)), (((0 : Int), (5000 : Int)), ((1 : Int), (2000 : Int)))))) (es := cells8.toList) gn_product_spans (cells_of_laid h) ⟨[.int .i64 400, .int .i64 1200], _, rfl, ⟨[_], [_], rfl, rfl, rfl⟩, [.int .i64 0, .int .i64 2000], _, rfl, ⟨[_], [_], rfl, rfl, rfl⟩, [.int .i64 0, .int .i64 5000], [.int .i64 1, .int .i64 2000], rfl, ⟨[_], [_], rfl, rfl, rfl⟩, ⟨[_], [_], rfl, rfl, rfl⟩⟩) ⟨_, _, _, _, _, ha6, hb6, hc6, hd6⟩
  · exact (fun h => glob_of (es := Lib.pow10Tab.map fun z => Value.int .u64 z) gn_strconv_uint64pow10 (tab_of h) (by rw [show (Lib.pow10Tab.map fun z => Value.int .u64 z) = flatI _ _ from (by kernel_rfl : _ = flatI (.pair (.int .u64) (.pair (.int .u64) (.pair (.int .u64) (.pair (.int .u64) (.pair (.int .u64) (.pair (.int .u64) (.pair (.int .u64) (.pair (.int .u64) (.pair (.int .u64) (.pair (.int .u64) (.pair (.int .u64) (.pair (.int .u64) (.pair (.int .u64) (.pair (.int .u64) (.pair (.int .u64) (.pair (.int .u64) (.pair (.int .u64) (.pair (.int .u64) (.pair (.int .u64) (.int .u64)))))))))))))))))))) ((1 : Int), ((10 : Int), ((100 : Int), ((1000 : Int), ((10000 : Int), ((100000 : Int), ((1000000 : Int), ((10000000 : Int), ((100000000 : Int), ((1000000000 : Int), ((10000000000 : Int), ((100000000000 : Int), ((1000000000000 : Int), ((10000000000000 : Int), ((100000000000000 : Int), ((1000000000000000 : Int), ((10000000000000000 : Int), ((100000000000000000 : Int), ((1000000000000000000 : Int), (10000000000000000000 : Int)))))))))))))))))))))]; exact flatI_rdC (by kernel_rfl))) ⟨_, _, _, _, _, ha2, hb2, hc2, hd2⟩
  · exact err_of gn_strconv_ErrSyntax gt_strconv_ErrSyntax ⟨_, _, _, _, _, ha5, hb5, hc5, hd5⟩
  · exact err_of gn_strconv_ErrRange gt_strconv_ErrRange ⟨_, _, _, _, _, ha4, hb4, hc4, hd4⟩
end Go.Proofs.YtihbfecdccamoaaGreatDoor.Ld
