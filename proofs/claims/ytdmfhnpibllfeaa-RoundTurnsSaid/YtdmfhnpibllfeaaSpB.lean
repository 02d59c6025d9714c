/- The engine, part B: how a state is carried over the operations of a region. No condition. -/
import Derived.Test.YtdmfhnpibllfeaaSpA
namespace Go.Sp
open Go Go.RowKit

section
variable {P : Program} {w0 : World} {M : Mod} {N : Nat} {F0 : Nat → Prop} {ops : Array Oper}
variable {F : Nat → Prop} {ρ : Env} {st : St} {a : Act} {w : World}

theorem Rel'.eval (h : Rel' w0 M N F ρ st a w) {x : Operand} {s : SV} (he : Ev st x s) : Den F w ρ s (a.eval x) := by
  cases x with
  | tmp t => unfold Ev at he; subst he; exact h.regs t
  | const v => unfold Ev at he; subst he; exact .val v
  | func f => unfold Ev at he; subst he; exact .val _
  | global g => exact he.elim

theorem getD_put (a : Act) (d : Nat) (v : Value) (hd : d < a.tmps.size) (t : Nat) :
    (a.put (some d) v).tmps.getD t undef = if t = d then v else a.tmps.getD t undef := by
  simp only [Act.put, Array.getD_eq_getD_getElem?, Array.getElem?_setIfInBounds]
  by_cases h : d = t
  · subst h; simp [hd]
  · simp [h, Ne.symm h]

theorem MemOk.congr {st' : St} (h : MemOk F w ρ st) (hc : st'.c = st.c) (hv : st'.v = st.v) (ha : st'.a = st.a) (hd : st'.d = st.d) : MemOk F w ρ st' := by
  obtain ⟨r, c, v, a', d⟩ := st'
  subst hc hv ha hd
  exact ⟨h.dom, h.var, h.arr, h.sep, h.own, h.fb, h.one⟩

theorem Rel'.setR (h : Rel' w0 M N F ρ st a w) {d : Nat} {s : SV} {v : Value} (hd : d < N) (hv : Den F w ρ s v) :
    Rel' w0 M N F ρ (st.put (.r d s)) (a.put (some d) v) w := by
  refine ⟨h.fr, h.mem.congr rfl rfl rfl rfl, h.lo, fun t => ?_, by simp [Act.put, h.sz], h.df, h.pin⟩
  rw [getD_put a d v (by rw [h.sz]; exact hd)]
  show Den F w ρ (bif Nat.beq t d then s else st.r t) _
  by_cases ht : t = d
  · subst ht; simp [hv]
  · have hb : Nat.beq t d = false := Bool.eq_false_iff.2 (fun e => ht (Nat.eq_of_beq_eq_true e))
    simp only [hb, cond_false, if_neg ht]; exact h.regs t

/-- What is read stays so while the blocks that it lies in stay so. -/
theorem Den.stay {w' : World} {s : SV} {v : Value} (h : Den F w ρ s v) (hb : ∀ g, F g → w'.heap[g]? = w.heap[g]?) : Den F w' ρ s v :=
  h.mono (fun _ h => h) (fun _ hF => World.cell?_of_block (hb _ hF)) ρ (fun _ _ h => h)

theorem MemOk.lt (h : MemOk F w ρ st) {b : Nat} {v : Value} {g : Nat} (hp : st.present b) (hr : ρ b = some v) (hg : blkOf v = some g) : g < w.heap.size := by
  rcases hp with hp | hp
  · obtain ⟨x, hx⟩ := Option.ne_none_iff_exists'.1 hp
    obtain ⟨g', arr, h1, h2, _⟩ := h.var b x.1 x.2 hx
    rw [h1] at hr; injection hr with hr; subst hr
    injection hg with hg; subst hg
    exact (Array.getElem?_eq_some_iff.1 h2).1
  · obtain ⟨A, hA⟩ := Option.ne_none_iff_exists'.1 hp
    obtain ⟨v', xs, h1, h2, _⟩ := h.arr b A hA
    rw [h1] at hr; injection hr with hr; subst hr
    rcases h2.2 with ⟨rfl, _⟩ | ⟨g', cap, cur, rfl, _, hh, _⟩
    · cases hg
    · injection hg with hg; subst hg
      exact (Array.getElem?_eq_some_iff.1 hh).1

/-- The world goes on: all that was there is as it was. -/
theorem MemOk.grow {w' : World} (h : MemOk F w ρ st) (hs : w.heap.size ≤ w'.heap.size) (hb : ∀ g, g < w.heap.size → w'.heap[g]? = w.heap[g]?)
    (ho : w'.os = w.os) (ht : w'.tape = w.tape) (hp : w'.output = w.output) : MemOk F w' ρ st := by
  have hden : ∀ {ρ s v}, Den F w ρ s v → Den F w' ρ s v := fun hd => hd.stay fun g hF => hb g (h.fb g hF)
  refine ⟨h.dom, ?_, ?_, h.sep, h.own, fun g hg => Nat.lt_of_lt_of_le (h.fb g hg) hs, h.one⟩
  · intro b ty k hv
    obtain ⟨g, arr, h1, h2, h3, h4⟩ := h.var b ty k hv
    exact ⟨g, arr, h1, (hb g (Array.getElem?_eq_some_iff.1 h2).1).trans h2, h3, fun j x hj => ⟨hden (h4 j x hj).1, (h4 j x hj).2⟩⟩
  · intro b A hA
    obtain ⟨v, xs, h1, h2, h3⟩ := h.arr b A hA
    refine ⟨v, xs, h1, h2.kept (row := none) ⟨ho, ht, hp, hs, fun k hk _ => hb k hk⟩ ?_, fun i j hi hj => ?_⟩
    · cases hv : v.ownBlock <;> simp
    · obtain ⟨x, a1, a2, a3⟩ := h3 i j hi hj
      exact ⟨x, a1, hden a2, a3⟩

theorem Rel'.grow {w' : World} (h : Rel' w0 M N F ρ st a w) (hs : w.heap.size ≤ w'.heap.size) (hb : ∀ g, g < w.heap.size → w'.heap[g]? = w.heap[g]?)
    (ho : w'.os = w.os) (ht : w'.tape = w.tape) (hp : w'.output = w.output) : Rel' w0 M N F ρ st a w' :=
  ⟨⟨ho.trans h.fr.os, ht.trans h.fr.tape, hp.trans h.fr.output, Nat.le_trans h.fr.size hs, fun g hg hM => (hb g (Nat.lt_of_lt_of_le hg h.fr.size)).trans (h.fr.blk g hg hM)⟩,
    h.mem.grow hs hb ho ht hp, h.lo, fun t => (h.regs t).stay fun g hF => hb g (h.mem.fb g hF), h.sz, h.df, h.pin⟩

theorem Rel'.drew (h : Rel' w0 M N F ρ st a w) : Rel' w0 M N F ρ st a w.drew := h.grow (Nat.le_refl _) (fun _ _ => rfl) rfl rfl rfl

/-! ### Operations that only make a value -/

theorem wanted_none {o : Oper} (hg : o.guard = none) : Region.wanted o (yielded ops a.tmps) = true := by simp [Region.wanted, hg]

theorem RT.value {o : Oper} {d : Nat} {pre : St → Prop} {s : SV} (hg : o.guard = none) (hdst : o.dst = some d) (hd : d < N)
    (f : ∀ st, pre st → ∀ F ρ a w, Rel' w0 M N F ρ st a w → ∃ v, (execOp a.eval o).run P w = .ok (.value v) w ∧ Den F w ρ s v) : RT P w0 M N F0 ops o pre [.r d s] := by
  intro st hp a w ⟨F, ρ, h, hF⟩
  rw [if_pos (wanted_none hg)]
  obtain ⟨v, hr, hv⟩ := f st hp F ρ a w h
  unfold Oper.wp
  rw [hr]
  show Rel w0 M N F0 _ (a.put o.dst v) w
  rw [hdst]
  exact ⟨F, ρ, h.setR hd hv, hF⟩

theorem RT.bad {o : Oper} {pre : St → Prop} {wr : List Wr} (h : ∀ st, ¬ pre st) : RT P w0 M N F0 ops o pre wr := fun st hp => (h st hp).elim

/-- A guarded operation that only makes a value: whether it runs or not. -/
theorem wp_guard_eq (o : Oper) (g : Option (Nat × Bool)) (K : Act → World → Prop) (Q : Exit → Act → World → Prop) : ({ o with guard := g } : Oper).wp P a w K Q = o.wp P a w K Q := rfl

theorem rt_move {d : Nat} {x : Operand} {ty : TypeId} {pos : String} {af : Array Edge} {s : SV} (hd : d < N) :
    RT P w0 M N F0 ops ⟨some d, .move x, ty, pos, af, none⟩ (fun st => Ev st x s) [.r d s] :=
  RT.value rfl rfl hd fun _ hp _ _ _ _ h => ⟨_, rfl, h.eval hp⟩
theorem rt_assign {d : Nat} {x : Operand} {ty : TypeId} {pos : String} {af : Array Edge} {s : SV} (hd : d < N) :
    RT P w0 M N F0 ops ⟨some d, .assign x, ty, pos, af, none⟩ (fun st => Ev st x s) [.r d s] :=
  RT.value rfl rfl hd fun _ hp _ _ _ _ h => ⟨_, rfl, h.eval hp⟩

theorem Den.val_iff {v v' : Value} : Den F w ρ (.val v) v' ↔ v' = v :=
  ⟨fun h => by cases h; rfl, fun h => by subst h; exact .val _⟩

theorem Rel'.evV (h : Rel' w0 M N F ρ st a w) {x : Operand} {v : Value} (he : Ev st x (.val v)) : a.eval x = v := Den.val_iff.1 (h.eval he)

end
end Go.Sp
