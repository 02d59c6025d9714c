/- The engine, part F: calls; regions, in the text's order and in any order; code; a function's contract. No condition. -/
import Derived.Test.YtdmfhnpibllfeaaSpE
namespace Go.Sp
open Go Go.RowKit

theorem EvL.length {st : St} : ∀ {xs : List Operand} {ss : List SV}, EvL st xs ss → xs.length = ss.length
  | [], [], _ => rfl
  | _ :: _, _ :: _, ⟨_, h⟩ => by simp [EvL.length h]
  | [], _ :: _, h => h.elim
  | _ :: _, [], h => h.elim
theorem EvL.at_ {st : St} : ∀ {xs : List Operand} {ss : List SV}, EvL st xs ss → ∀ (i : Nat) (x : Operand) (s : SV), xs[i]? = some x → ss[i]? = some s → Ev st x s
  | [], [], _, i, x, s, h, _ => by simp at h
  | x0 :: _, s0 :: _, ⟨h0, h1⟩, i, x, s, hx, hs => by
    cases i with
    | zero => simp at hx hs; subst hx hs; exact h0
    | succ i => exact h1.at_ i x s (by simpa using hx) (by simpa using hs)
  | [], _ :: _, h, _, _, _, _, _ => h.elim
  | _ :: _, [], h, _, _, _, _, _ => h.elim

section
variable {P : Program} {w0 : World} {M : Mod} {N : Nat} {F0 : Nat → Prop} {ops : Array Oper}
variable {F : Nat → Prop} {ρ : Env} {st : St} {a : Act} {w : World}
variable {d : Nat} {x y z : Operand} {ty ty' : TypeId} {pos : String} {af : Array Edge}

/-- The world behind a call that only reads. -/
theorem Rel'.called {w' : World} {F' : Nat → Prop} (h : Rel' w0 M N F ρ st a w) (hf : Fr w (fun _ => False) w') (h1 : ∀ g, F g → F' g) (h2 : ∀ g, F' g → F g ∨ w.heap.size ≤ g) (h3 : ∀ g, F' g → g < w'.heap.size) :
    Rel' w0 M N F' ρ st a w' := by
  have hg := h.grow hf.size (fun g hg => hf.blk g hg id) hf.os hf.tape hf.output
  have up : ∀ {ρ s v}, Den F w' ρ s v → Den F' w' ρ s v := fun hd => hd.mono h1 (fun _ _ => rfl) _ (fun _ _ h => h)
  refine ⟨hg.fr, ⟨hg.mem.dom, ?_, ?_, hg.mem.sep, ?_, h3, hg.mem.one⟩, hg.lo, fun t => up (hg.regs t), hg.sz, hg.df, hg.pin⟩
  · intro b ty k hv
    obtain ⟨g, arr, a1, a2, a3, a4⟩ := hg.mem.var b ty k hv
    exact ⟨g, arr, a1, a2, a3, fun j x hj => ⟨up (a4 j x hj).1, (a4 j x hj).2⟩⟩
  · intro b A hA
    obtain ⟨v, xs, a1, a2, a3⟩ := hg.mem.arr b A hA
    refine ⟨v, xs, a1, a2, fun i j hi hj => ?_⟩
    obtain ⟨x, b1, b2, b3⟩ := a3 i j hi hj
    exact ⟨x, b1, up b2, b3⟩
  · intro b v g hp hr hb hF
    rcases h2 g hF with h | hge
    · exact hg.mem.own b v g hp hr hb h
    · exact absurd (h.mem.lt hp hr hb) (Nat.not_lt.2 hge)

theorem rd_call {f : FuncId} {xs : List Operand} {ats : Array TypeId} {args : List SV} {res : SV} (hd : d < N) (c : FnC P f args res) :
    RTD P w0 M N F0 ops ⟨some d, .call { callee := .value (.func f), args := xs.toArray, argTypes := ats }, ty, pos, af, none⟩ (fun st => EvL st xs args ∧ args.all closedS = true) (evKeys xs ++ []) [.r d res] := by
  refine ⟨?_, (Dep.evL xs args).and (Dep.pure _)⟩
  rintro st ⟨h1, h2⟩ a w ⟨F, ρ, h, hF⟩
  rw [if_pos (wanted_none rfl)]
  unfold Oper.wp
  rw [execOp_call_go]
  have e : (#[] ++ xs.toArray.map a.eval ++ #[] : Array Value) = (xs.map a.eval).toArray := by simp
  rw [e, run_callFn c.ok]
  show Calls P f _ w _
  refine (c.run F w (xs.map a.eval) (by rw [List.length_map]; exact h1.length.symm) (fun i s v hs hv => ?_) h.mem.fb).mono ?_
  · rw [List.getElem?_map] at hv
    cases hx : xs[i]? with
    | none => rw [hx] at hv; cases hv
    | some x =>
      rw [hx] at hv; injection hv with hv; subst hv
      exact (h.eval (h1.at_ i x s hx hs)).closed (by simp only [List.all_eq_true] at h2; exact h2 s (List.mem_of_getElem? hs))
  · rintro e w' ⟨r, F', rfl, g1, g2, g3, g4, g5⟩
    exact ⟨F', ρ, (h.called g1 g2 g3 g4).setR hd (g5.weaken ρ), fun g hg => g2 g (hF.1 g hg), fun g hg => (g3 g hg).elim (fun hg => hF.2 g hg) fun hge => .inr (.inr (Nat.le_trans h.fr.size hge))⟩

/-! ### Regions -/

structure DoneOp (P : Program) (w0 : World) (M : Mod) (N : Nat) (F0 : Nat → Prop) (ops : Array Oper) where
  o : Oper
  pre : St → Prop
  rd : List Key
  wr : List Wr
  h : RTD P w0 M N F0 ops o pre rd wr

def DoneOp.foot (x : DoneOp P w0 M N F0 ops) : List Key × List Key := (x.rd, x.wr.map Wr.key)
def runL (st : St) : List (DoneOp P w0 M N F0 ops) → St
  | [] => st
  | x :: l => runL (st.app x.wr) l
def preL (st : St) : List (DoneOp P w0 M N F0 ops) → Prop
  | [] => True
  | x :: l => x.pre st ∧ preL (st.app x.wr) l

def QK (w0 : World) (M : Mod) (N : Nat) (F0 : Nat → Prop) (K : St → Prop) : Exit → Act → World → Prop
  | .normal, a, w => ∃ st', K st' ∧ Rel w0 M N F0 st' a w
  | _, _, _ => False

/-- The region's operations, up to 'rest', have brought st0 to st: what follows. -/
def G (P : Program) (w0 : World) (M : Mod) (N : Nat) (F0 : Nat → Prop) (draw : Bool) (ops : Array Oper) (st0 : St) (feet : List (List Key × List Key)) (rest : List Oper) (st : St) (K : St → Prop) : Prop :=
  ∀ L : List (DoneOp P w0 M N F0 ops), L.map DoneOp.foot = feet → L.map (·.o) ++ rest = ops.toList → preL st0 L → runL st0 L = st →
    ∀ a w, Rel w0 M N F0 st0 a w → if draw then wpAny P .any ops (QK w0 M N F0 K) ops.size (Array.replicate ops.size false) a { w with drawn := w.drawn + 1 } else wpList P ops (QK w0 M N F0 K) ops.toList a w

theorem runL_append (st : St) (l l' : List (DoneOp P w0 M N F0 ops)) : runL st (l ++ l') = runL (runL st l) l' := by
  induction l generalizing st with
  | nil => rfl
  | cons x l ih => exact ih _
theorem preL_append (st : St) (l l' : List (DoneOp P w0 M N F0 ops)) : preL st (l ++ l') ↔ preL st l ∧ preL (runL st l) l' := by
  induction l generalizing st with
  | nil => simp [preL, runL]
  | cons x l ih => simp only [List.cons_append, preL, runL, ih, and_assoc]

theorem G.step {draw : Bool} {st0 : St} {feet : List (List Key × List Key)} {rest : List Oper} {K : St → Prop} {o : Oper} {pre : St → Prop} {rd : List Key} {wr : List Wr}
    (h : RTD P w0 M N F0 ops o pre rd wr) (hp : pre st) (hk : G P w0 M N F0 draw ops st0 (feet ++ [(rd, wr.map Wr.key)]) rest (st.app wr) K) : G P w0 M N F0 draw ops st0 feet (o :: rest) st K := by
  intro L hf ho hpre hr
  refine hk (L ++ [⟨o, pre, rd, wr, h⟩]) (by simp [hf, DoneOp.foot]) (by simp [← ho]) ?_ (by rw [runL_append, hr]; rfl)
  rw [preL_append, hr]
  exact ⟨hpre, hp, trivial⟩

theorem seq_sound {K : St → Prop} : ∀ (L : List (DoneOp P w0 M N F0 ops)) (st : St) (a : Act) (w : World), preL st L → Rel w0 M N F0 st a w → K (runL st L) → wpList P ops (QK w0 M N F0 K) (L.map (·.o)) a w
  | [], st, a, w, _, hr, hK => ⟨st, hK, hr⟩
  | x :: L, st, a, w, ⟨hp, hpre⟩, hr, hK => by
    have h := x.h.rt st hp a w hr
    show wpList P ops (QK w0 M N F0 K) (x.o :: L.map (·.o)) a w
    unfold wpList
    split
    · rename_i hw
      rw [if_pos hw] at h
      refine .inl ?_
      have h2 := Oper.wp_mono (K' := wpList P ops (QK w0 M N F0 K) (L.map (·.o))) (fun a' w' hr' => seq_sound L _ a' w' hpre hr' hK) h
      exact wp_calm h2
    · rename_i hw
      rw [if_neg hw] at h
      exact seq_sound L _ _ _ hpre h hK
where
  wp_calm {o : Oper} {a : Act} {w : World} {K' : Act → World → Prop} {Q : Exit → Act → World → Prop} (h : o.wp P a w K' (fun _ _ _ => False)) : o.wp P a w K' Q := by
    unfold Oper.wp at *
    generalize (execOp a.eval o).run P w = r at *
    cases r with
    | ok n w' =>
      cases n <;> simp only [Oper.upon] at h ⊢ <;>
        first
          | exact h
          | exact Calls.mono h (fun e w'' he => by
              cases e with
              | returned v => exact he
              | panicked c => exact he.elim
              | outgrown => exact (by obtain ⟨_, _, hh⟩ := he; exact hh.elim))
    | halt x w' => cases x <;> simp only [Oper.upon] at h ⊢

theorem G.done {st0 : St} {feet : List (List Key × List Key)} {K : St → Prop} (hK : K st) : G P w0 M N F0 false ops st0 feet [] st K := by
  intro L _ ho hpre hr a w hrel
  simp only [List.append_nil] at ho
  rw [if_neg (by simp), ← ho]
  exact seq_sound L st0 a w hpre hrel (by rw [hr]; exact hK)

end
end Go.Sp
