/- The listed package variables: a world that holds them; what such a world says of the two sentinels. No condition. -/
import Derived.Test.YtmhoomlmmecmdaaDoorRows
import Derived.Test.YtmhoomlmmecmdaaDoorSqZ
import Derived.LaidLaws
import Derived.LaidHandle
namespace Go.Proofs.YtmhoomlmmecmdaaDoor.Ld
open Go Go.ChangeShapes Go.WideShapes Go.ChangeAt Go.RowKit Go.Sq
set_option linter.unusedVariables false
def setC (cs : Array Value) : Obj → Obj
  | .cells _ t fz => .cells cs t fz
  | o => o
def flatW : Nat → DataW Unit → List Value
  | 0, _ => []
  | _ + 1, .lit (.int k v) => [.int k v]
  | n + 1, .agg l => l.flatMap (flatW n)
  | _, _ => []
noncomputable def laidWorld (os : Os) : World :=
  { World.holding Tryd.prog os ⟨#[], #[], []⟩ with heap := ((((((((((World.holding Tryd.prog os ⟨#[], #[], []⟩).heap).modify 6 (setC (flatW 6 Rows.laid_math_bits_deBruijn32tab).toArray)).modify 7 (setC (flatW 6 Rows.laid_math_bits_deBruijn64tab).toArray)).modify 5 (setC (flatW 6 Rows.laid_internal_strconv_uint64pow10).toArray)).modify 4 (setC (flatW 6 Rows.laid_unicode_utf8_acceptRanges).toArray)).modify 2 (setC #[.iface 97 (.pointer (some ⟨(World.holding Tryd.prog os ⟨#[], #[], []⟩).heap.size + 0, 0, none⟩))])).modify 1 (setC #[.iface 97 (.pointer (some ⟨(World.holding Tryd.prog os ⟨#[], #[], []⟩).heap.size + 1, 0, none⟩))])).modify 3 (setC (flatW 6 Rows.laid_unicode_utf8_first).toArray)).push (.cells #[.string ⟨⟨[118, 97, 108, 117, 101, 32, 111, 117, 116, 32, 111, 102, 32, 114, 97, 110, 103, 101]⟩⟩] 99 (0, 0))).push (.cells #[.string ⟨⟨[105, 110, 118, 97, 108, 105, 100, 32, 115, 121, 110, 116, 97, 120]⟩⟩] 99 (0, 0)) }
theorem laidWorld_met (os : Os) (args : Array Value) : laidMetH Tryd.prog Rows.linesNumbersRow.laid ((laidWorld os).forCall (fun _ _ => 0) ⟨#[], args, []⟩).memory :=
  (laidMet_of_run' 12 (by kernel_rfl) (by kernel_rfl) : laidMet Tryd.prog Rows.linesNumbersRow.laid ((laidWorld os).forCall (fun _ _ => 0) ⟨#[], args, []⟩).memory)
theorem laid_heap {w w' : World} (hh : w.heap = w'.heap) (h : laidMetH Tryd.prog Rows.linesNumbersRow.laid w) : laidMetH Tryd.prog Rows.linesNumbersRow.laid w' :=
  laidMet.of_heap hh (h : laidMet Tryd.prog Rows.linesNumbersRow.laid w)
theorem gn_ErrSyntax : Tryd.prog.globalNamed "strconv.ErrSyntax" = some 1 := by kernel_rfl
theorem gt_ErrSyntax : (Tryd.prog.globals[1]?).map (·.type) = some 49 := by kernel_rfl
theorem gn_ErrRange : Tryd.prog.globalNamed "strconv.ErrRange" = some 2 := by kernel_rfl
theorem gt_ErrRange : (Tryd.prog.globals[2]?).map (·.type) = some 49 := by kernel_rfl
theorem cell_of {W : World} {n : String} {g0 : Nat} {nm : String} {d : DataW Unit} {p : List MemPlace} (hn : Tryd.prog.globalNamed n = some g0) (hty : (Tryd.prog.globals[g0]?).map (·.type) = some 49)
    (h : ∃ (g : Nat) (t : TypeId) (cs : Array Value) (fuel : Nat), Tryd.prog.globalNamed n = some g ∧ (Tryd.prog.globals[g]?).map (·.type) = some t ∧ W.var? Tryd.prog n = some cs ∧ DataW.trod (fun _ => ()) Tryd.prog W 0 (fun _ => true) false fuel t cs.toList = some (.iface nm d, p)) :
    g0 < W.heap.size ∧ ∃ es, RdC (fun g => g < W.heap.size) W .err true es ∧ ∀ (j : Nat) (u : Value), es[j]? = some u → W.cell? ⟨g0, j, none⟩ = some u := by
  obtain ⟨g, t, cs, fuel, hg, ht, hvar, hd⟩ := h
  obtain rfl := Option.some.inj (hn.symm.trans hg)
  obtain rfl := Option.some.inj (hty.symm.trans ht)
  obtain ⟨_, u, v, hcs, _, _⟩ := iface_of_trod Tryd.underlying49 hd
  have hc := World.var?_cell hn hvar
  have hcell : ∀ (j : Nat) (x : Value), [Value.iface u v][j]? = some x → W.cell? ⟨g0, j, none⟩ = some x := fun j x hj => (hc j).trans (by rw [← Array.getElem?_toList, hcs]; exact hj)
  refine ⟨?_, [.iface u v], ⟨_, rfl, rfl, ⟨_, _, rfl⟩⟩, hcell⟩
  have h0 := hcell 0 _ rfl
  unfold World.cell? at h0
  rcases Nat.lt_or_ge g0 W.heap.size with h1 | h1
  · exact h1
  · rw [Array.getElem?_eq_none h1] at h0; cases h0
theorem glob_ok {W : World} (h : laidMetH Tryd.prog Rows.linesNumbersRow.laid W) : GlobOk (fun g => g < W.heap.size) W := by
  have h' : laidMet Tryd.prog Rows.linesNumbersRow.laid W := h
  obtain ⟨ps, l0, _⟩ := h'
  obtain ⟨_, _, _, _, _, _, _, _, _, _, l1, _⟩ := l0
  obtain ⟨_, _, _, _, _, _, _, _, _, _, l2, _⟩ := l1
  obtain ⟨_, _, _, _, _, _, _, _, _, _, l3, _⟩ := l2
  obtain ⟨_, _, _, _, _, _, _, _, _, _, l4, _⟩ := l3
  obtain ⟨gr, tr, csr, fuelr, _, _, har, hbr, hcr, hdr, l5, _⟩ := l4
  obtain ⟨gs, ts, css, fuels, _, _, has, hbs, hcs, hds, l6, _⟩ := l5
  intro p hp
  unfold globs at hp
  simp only [List.mem_cons, List.not_mem_nil, or_false] at hp
  rcases hp with rfl | rfl
  · exact cell_of gn_ErrSyntax gt_ErrSyntax ⟨_, _, _, _, has, hbs, hcs, hds⟩
  · exact cell_of gn_ErrRange gt_ErrRange ⟨_, _, _, _, har, hbr, hcr, hdr⟩
end Go.Proofs.YtmhoomlmmecmdaaDoor.Ld
