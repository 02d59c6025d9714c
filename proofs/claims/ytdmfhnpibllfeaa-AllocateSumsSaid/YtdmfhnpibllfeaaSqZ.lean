/- The second engine, part Z: how a law's arguments are read, more kinds. No condition. -/
import Derived.Test.YtdmfhnpibllfeaaSqY
namespace Go.Sq
open Go Go.RowKit Go.ChangeShapes Go.WideShapes
section
variable {H : Type} {enc : TypeId × Value → H} {P : Program}

/-- A slice of integers of any kind among a law's arguments. -/
theorem den_intsK {k : IntKind} {W : World} {r : Go.Reach} {b0 : Nat} {t e : TypeId} {v : Value} {d : DataW H} {ps : List MemPlace} {sp : Nat → Bool} {held : Bool} (ht : P.underlying t = some (.slice e)) (he : P.underlying e = some (.int k)) (hc : P.cellsOf e = 1)
    (hval : Value.okWide P W r b0 t v) (hd : DataW.Trod enc P W 0 sp held t v d ps) :
    ∃ l : List Int, RdV (fun g => g < W.heap.size) W (.sl (.int k)) l v ∧ (l.length : Int) ≤ 9223372036854775807 ∧ ∀ x ∈ l, (Lit.int k x).wf = true := by
  obtain ⟨a, len, cap, rfl⟩ := okWide_slice ht hval
  obtain ⟨fuel, hf⟩ := hd
  rcases open_ints ht he hc hf with ⟨h, _⟩ | ⟨a', len', cap', zs, h, _, hle, hcap, hlz, _, hcell, hwf⟩
  · have h' : Value.slice a len cap = .slice none 0 0 := by simpa [Value.cells] using h
    injection h' with h1 h2 h3
    subst h1 h2 h3
    exact ⟨[], ⟨_, ⟨none, 0, rfl, rfl⟩, rfl⟩, by simp, by simp⟩
  · have h' : Value.slice a len cap = .slice (some a') len' cap' := by simpa [Value.cells] using h
    injection h' with h1 h2 h3
    subst h1 h2 h3
    have hz : len ≤ zs.length := by rw [hlz]; split <;> omega
    have hblk : a'.block < W.heap.size := by
      simp only [Value.okWide, ht, Cell.okWide, Cell.ok] at hval
      exact has_lt hval.2.2
    have hlen : (zs.take len).length = len := by simp [hz]
    have hlen2 : [Value.slice (some a') len cap] = [Value.slice (some a') (zs.take len).length cap] := by rw [hlen]
    refine ⟨zs.take len, ⟨[.slice (some a') len cap], ⟨some a', cap, hlen2, ?_⟩, rfl⟩, ?_, ?_⟩
    · refine ⟨hblk, Nat.le_trans (Nat.le_of_eq hlen) hle, hcap, fun i x hx => ?_⟩
      have hx' : (zs.take len)[i]? = some x := hx
      have hi : i < len := by have := (List.getElem?_eq_some_iff.1 hx').1; omega
      refine ⟨[.int k x], rfl, fun j v hj => ?_⟩
      cases j with
      | succ j => simp at hj
      | zero =>
        simp only [List.getElem?_cons_zero, Option.some.injEq] at hj; subst hj
        have hz2 : zs.getD i 0 = x := by
          rw [List.getElem?_take, if_pos hi] at hx'
          rw [List.getD_eq_getElem?_getD, hx']; rfl
        have := hcell i (by omega)
        rw [hz2] at this
        show W.cell? (a'.add (i * 1 + 0)) = _
        rw [Nat.mul_one, Nat.add_zero]; exact this
    · rw [hlen]
      have : len ≤ maxLen := Nat.le_trans hle hcap
      unfold maxLen at this
      omega
    · intro x hx
      exact hwf x (List.mem_of_mem_take hx)
end
end Go.Sq
