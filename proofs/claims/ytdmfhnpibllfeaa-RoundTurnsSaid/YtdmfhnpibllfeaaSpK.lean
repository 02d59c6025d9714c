/- The engine, part K: functions that write to the variable that their first argument points to; functions that return a new variable. No condition. -/
import Derived.Test.YtdmfhnpibllfeaaSpJ
namespace Go.Sp
open Go Go.RowKit

/-- The cells of a block. -/
def BlkIs (F : Nat → Prop) (w : World) (g : Nat) (ty : TypeId) (cs : List SV) : Prop :=
  ∃ arr, w.heap[g]? = some (.cells arr ty (0, 0)) ∧ arr.size = cs.length ∧ ∀ (j : Nat) (s : SV) (x : Value), cs[j]? = some s → arr[j]? = some x → Den F w Env.none s x ∧ x.oneCell' = true

/-- A contract of a function whose first argument points to a variable: at these other arguments, with cs in the variable, it returns 'res' and leaves cs' there; nothing else that was there has changed. -/
structure FnV (P : Program) (f : FuncId) (args : List SV) (ty : TypeId) (cs : List SV) (res : SV) (cs' : List SV) : Prop where
  ok : FnOk P f
  run : ∀ (F : Nat → Prop) (w : World) (g : Nat) (vs : List Value), args.length = vs.length → (∀ (i : Nat) (s : SV) (v : Value), args[i]? = some s → vs[i]? = some v → Den F w Env.none s v) → (∀ g, F g → g < w.heap.size) → ¬ F g → BlkIs F w g ty cs →
    Calls P f (.pointer (some ⟨g, 0, none⟩) :: vs).toArray w fun e w' => ∃ r F', e = .returned r ∧ Fr w (fun x => x = g) w' ∧ (∀ g, F g → F' g) ∧ (∀ g, F' g → F g ∨ w.heap.size ≤ g) ∧ (∀ g, F' g → g < w'.heap.size) ∧ Den F' w' Env.none res r ∧ BlkIs F' w' g ty cs'

/-- A contract of a function that returns a pointer to a new variable. -/
structure FnN (P : Program) (f : FuncId) (args : List SV) (ty : TypeId) (cs' : List SV) : Prop where
  ok : FnOk P f
  run : ∀ (F : Nat → Prop) (w : World) (vs : List Value), args.length = vs.length → (∀ (i : Nat) (s : SV) (v : Value), args[i]? = some s → vs[i]? = some v → Den F w Env.none s v) → (∀ g, F g → g < w.heap.size) →
    Calls P f vs.toArray w fun e w' => ∃ g F', e = .returned (.pointer (some ⟨g, 0, none⟩)) ∧ Fr w (fun _ => False) w' ∧ (∀ g, F g → F' g) ∧ (∀ g, F' g → F g ∨ w.heap.size ≤ g) ∧ (∀ g, F' g → g < w'.heap.size) ∧ BlkIs F' w' g ty cs' ∧ w.heap.size ≤ g ∧ ¬ F' g

section
variable {P : Program} {w0 : World} {M : Mod} {N : Nat} {F0 : Nat → Prop} {ops : Array Oper}
variable {F : Nat → Prop} {ρ : Env} {st : St} {a : Act} {w : World}
variable {d : Nat} {x y z : Operand} {ty ty' : TypeId} {pos : String} {af : Array Edge}

/-- The world behind a call that may write to the variable b. -/
theorem Rel'.calledV {w' : World} {F' : Nat → Prop} {b g k : Nat} {tyb : TypeId} {cs' : List SV} (h : Rel' w0 M N F ρ st a w) (hv : st.v b = some (tyb, k)) (hρ : ρ b = some (.pointer (some ⟨g, 0, none⟩)))
    (hf : Fr w (fun x => x = g) w') (h1 : ∀ g, F g → F' g) (h2 : ∀ g, F' g → F g ∨ w.heap.size ≤ g) (h3 : ∀ g, F' g → g < w'.heap.size) (hb : BlkIs F' w' g tyb cs') (hk : cs'.length = k) :
    Rel' w0 M N F' ρ (st.app (cellWr b 0 cs')) a w' := by
  have hpb : st.present b := .inl (by rw [hv]; simp)
  have hgl : g < w.heap.size := h.mem.lt hpb hρ rfl
  have hFg : ∀ g', F g' → g' ≠ g := fun g' hF e => by subst e; exact h.mem.own b _ _ hpb hρ rfl hF
  have hother : ∀ g', g' < w.heap.size → g' ≠ g → w'.heap[g']? = w.heap[g']? := fun g' hl hne => hf.blk g' hl hne
  have up : ∀ {ρ s v}, Den F w ρ s v → Den F' w' ρ s v := fun hd => hd.mono h1 (fun ad hF => World.cell?_of_block (hother _ (h.mem.fb _ hF) (hFg _ hF))) _ (fun _ _ h => h)
  obtain ⟨e1, e2, e3, e4, e5, e6, e7⟩ := app_cellWr b cs' 0 st
  obtain ⟨arr', b1, b2, b3⟩ := hb
  have hP : ∀ b', (st.app (cellWr b 0 cs')).present b' ↔ st.present b' := fun b' => by unfold St.present; rw [e2, e3]
  refine ⟨⟨hf.os.trans h.fr.os, hf.tape.trans h.fr.tape, hf.output.trans h.fr.output, Nat.le_trans h.fr.size hf.size, fun g' hg' hM => ?_⟩, ⟨?_, ?_, ?_, ?_, ?_, h3, h.mem.one⟩, ?_, ?_, h.sz, h.df, h.pin⟩
  · have hne : g' ≠ g := by
      rintro rfl
      rcases h.lo b _ _ hpb hρ rfl with hm | hm
      · exact hM hm
      · exact absurd hg' (Nat.not_lt.2 hm)
    exact (hother g' (Nat.lt_of_lt_of_le hg' h.fr.size) hne).trans (h.fr.blk g' hg' hM)
  · intro b' hb'; rw [e4] at hb'; exact h.mem.dom b' hb'
  · intro b' ty' k' hv'
    rw [e2] at hv'
    by_cases e : b' = b
    · subst e
      rw [hv] at hv'; injection hv' with hv'; injection hv' with q1 q2; subst q1 q2
      refine ⟨g, arr', hρ, b1, b2.trans hk, fun j x hx => ?_⟩
      have hj : j < cs'.length := by rw [← b2]; exact (Array.getElem?_eq_some_iff.1 hx).1
      have hs := List.getElem?_eq_getElem hj
      have h8 := e7 j _ hs
      rw [Nat.zero_add] at h8
      rw [h8]
      exact ⟨(b3 j _ x hs hx).1.weaken ρ, (b3 j _ x hs hx).2⟩
    · obtain ⟨g', arr2, c1, c2, c3, c4⟩ := h.mem.var b' ty' k' hv'
      have hne : g' ≠ g := by
        rintro rfl
        exact e (h.mem.sep b' b _ _ g' (.inl (by rw [hv']; simp)) hpb c1 hρ rfl rfl)
      exact ⟨g', arr2, c1, (hother g' (Array.getElem?_eq_some_iff.1 c2).1 hne).trans c2, c3, fun j x hx => ⟨by rw [e5 b' j e]; exact up (c4 j x hx).1, (c4 j x hx).2⟩⟩
  · intro b' A hA
    rw [e3] at hA
    obtain ⟨v, xs, c1, c2, c3⟩ := h.mem.arr b' A hA
    refine ⟨v, xs, c1, ?_, fun i j hi hj => ?_⟩
    · refine c2.kept (row := some g) ⟨hf.os, hf.tape, hf.output, hf.size, fun k' hk1 hk' => hother k' hk1 (fun e => hk' (by rw [e]))⟩ ?_
      refine .inr (fun hob => ?_)
      have hbk : blkOf v = some g := by
        cases v <;> simp [Value.ownBlock] at hob
        rename_i p _ _; cases p <;> simp at hob
        simpa [blkOf] using hob
      have := h.mem.sep b' b _ _ g (.inr (by rw [hA]; simp)) hpb c1 hρ hbk rfl
      subst this
      rw [hρ] at c1; injection c1 with c1; subst c1
      simp [Value.ownBlock] at hob
    · obtain ⟨x, d1, d2, d3⟩ := c3 i j hi hj
      exact ⟨x, d1, up d2, d3⟩
  · intro b1 b2 v1 v2 g' p1 p2; exact h.mem.sep b1 b2 v1 v2 g' ((hP _).1 p1) ((hP _).1 p2)
  · intro b' v g' p hr hbk hF
    rcases h2 g' hF with h4 | hge
    · exact h.mem.own b' v g' ((hP _).1 p) hr hbk h4
    · exact absurd (h.mem.lt ((hP _).1 p) hr hbk) (Nat.not_lt.2 hge)
  · intro b' v g' p; exact h.lo b' v g' ((hP _).1 p)
  · intro t; rw [e1]; exact up (h.regs t)

theorem den_args {xs : List Operand} {args : List SV} (h : Rel' w0 M N F ρ st a w) (h1 : EvL st xs args) (h2 : args.all closedS = true) :
    args.length = (xs.map a.eval).length ∧ ∀ (i : Nat) (s : SV) (v : Value), args[i]? = some s → (xs.map a.eval)[i]? = some v → Den F w Env.none s v := by
  refine ⟨by rw [List.length_map]; exact h1.length.symm, fun i s v hs hv => ?_⟩
  rw [List.getElem?_map] at hv
  cases hx : xs[i]? with
  | none => rw [hx] at hv; cases hv
  | some x =>
    rw [hx] at hv; injection hv with hv; subst hv
    exact (h.eval (h1.at_ i x s hx hs)).closed (by simp only [List.all_eq_true] at h2; exact h2 s (List.mem_of_getElem? hs))

theorem rd_callV {f : FuncId} {xs : List Operand} {ats : Array TypeId} {args : List SV} {res : SV} {b k : Nat} {tyb : TypeId} {cs cs' : List SV} (hd : d < N) (c : FnV P f args tyb cs res cs') (hk : cs'.length = cs.length) (hcl : cs.all closedS = true) :
    RTD P w0 M N F0 ops ⟨some d, .call { callee := .value (.func f), args := (x :: xs).toArray, argTypes := ats }, ty, pos, af, none⟩
      (fun st => Ev st x (.ptr b 0) ∧ st.v b = some (tyb, k) ∧ CellsAre st b 0 cs ∧ EvL st xs args ∧ (Nat.beq k cs.length = true ∧ args.all closedS = true)) (opKeys x ++ ([.v b] ++ (cellKeys b 0 cs ++ (evKeys xs ++ [])))) (cellWr b 0 cs' ++ [.r d res]) := by
  refine ⟨?_, (Dep.ev x _).and ((Dep.v b _).and ((Dep.cells b 0 cs).and ((Dep.evL xs args).and (Dep.pure _))))⟩
  rintro st ⟨h1, h2, h3, h4, h2', h5⟩ a w ⟨F, ρ, h, hF⟩
  have e0 := Nat.eq_of_beq_eq_true h2'; subst e0
  rw [if_pos (wanted_none rfl)]
  have h6 := h.eval h1
  generalize hx : a.eval x = v at h6
  cases h6 with
  | ptr hρ =>
    rename_i g
    unfold Oper.wp
    rw [execOp_call_go]
    have e : (#[] ++ (x :: xs).toArray.map a.eval ++ #[] : Array Value) = (Value.pointer (some ⟨g, 0, none⟩) :: xs.map a.eval).toArray := by simp [hx]
    rw [e, run_callFn c.ok]
    show Calls P f _ w _
    obtain ⟨q1, q2⟩ := den_args h h4 h5
    have hpb : st.present b := .inl (by rw [h2]; simp)
    have hblk : BlkIs F w g tyb cs := by
      obtain ⟨g', arr, a1, a2, a3, a4⟩ := h.mem.var b tyb cs.length h2
      rw [hρ] at a1; injection a1 with a1; injection a1 with a1; injection a1 with a1; injection a1 with a1; subst a1
      refine ⟨arr, a2, a3, fun j s x hs hx => ?_⟩
      have := a4 j x hx
      have hc := h3.at_ j s hs
      rw [Nat.zero_add] at hc
      rw [hc] at this
      exact ⟨this.1.closed (by simp only [List.all_eq_true] at hcl; exact hcl s (List.mem_of_getElem? hs)), this.2⟩
    refine (c.run F w g (xs.map a.eval) q1 q2 h.mem.fb (h.mem.own b _ _ hpb hρ rfl) hblk).mono ?_
    rintro e w' ⟨r, F', rfl, g1, g2, g3, g4, g5, g6⟩
    have hnew := (h.calledV h2 hρ g1 g2 g3 g4 g6 hk).setR hd (g5.weaken ρ)
    show Rel w0 M N F0 (st.app (cellWr b 0 cs' ++ [.r d res])) (a.put (some d) r) w'
    rw [app_append]
    exact ⟨F', ρ, hnew, fun g hg => g2 g (hF.1 g hg), fun g hg => (g3 g hg).elim (fun hg => hF.2 g hg) fun hge => .inr (.inr (Nat.le_trans h.fr.size hge))⟩

/-- A block that is there already becomes a variable. -/
theorem Rel'.addVar (h : Rel' w0 M N F ρ st a w) {b d g : Nat} {tyb : TypeId} {cs : List SV} (hb : st.d b = false) (hd : d < N) (hblk : BlkIs F w g tyb cs) (hg : w0.heap.size ≤ g) (hF : ¬ F g)
    (hfree : ∀ b' v, st.present b' → ρ b' = some v → blkOf v ≠ some g) :
    Rel' w0 M N F (ρ.set b (.pointer (some ⟨g, 0, none⟩))) (st.app (.d b :: .v b (some (tyb, cs.length)) :: .r d (.ptr b 0) :: cellWr b 0 cs)) (a.put (some d) (.pointer (some ⟨g, 0, none⟩))) w := by
  have hρb := h.mem.dom b hb
  have hρ : ∀ b' x, ρ b' = some x → (ρ.set b (.pointer (some ⟨g, 0, none⟩))) b' = some x := fun b' x hx => by
    unfold Env.set
    rw [if_neg (fun e => by subst e; rw [hρb] at hx; cases hx)]; exact hx
  obtain ⟨arr, k1, k2, k3⟩ := hblk
  obtain ⟨h1, h2, h3, h4, h5, h6, h7⟩ := app_cellWr b cs 0 (((st.put (.d b)).put (.v b (some (tyb, cs.length)))).put (.r d (.ptr b 0)))
  have up : ∀ {s v}, Den F w ρ s v → Den F w (ρ.set b (.pointer (some ⟨g, 0, none⟩))) s v := fun hd => hd.mono (fun _ h => h) (fun _ _ => rfl) _ hρ
  have beqf : ∀ {x y : Nat}, x ≠ y → Nat.beq x y = false := fun hne => Bool.eq_false_iff.2 (fun h => hne (Nat.eq_of_beq_eq_true h))
  have hV : ∀ b', (st.app (.d b :: .v b (some (tyb, cs.length)) :: .r d (.ptr b 0) :: cellWr b 0 cs)).v b' = if b' = b then some (tyb, cs.length) else st.v b' := by
    intro b'
    show (St.app _ (cellWr b 0 cs)).v b' = _
    rw [h2]
    show (bif Nat.beq b' b then _ else st.v b') = _
    by_cases e : b' = b
    · subst e; simp
    · simp [beqf e, e]
  have hA : ∀ b', (st.app (.d b :: .v b (some (tyb, cs.length)) :: .r d (.ptr b 0) :: cellWr b 0 cs)).a b' = st.a b' := fun b' => congrFun h3 b'
  have hD : ∀ b', (st.app (.d b :: .v b (some (tyb, cs.length)) :: .r d (.ptr b 0) :: cellWr b 0 cs)).d b' = if b' = b then true else st.d b' := by
    intro b'
    show (St.app _ (cellWr b 0 cs)).d b' = _
    rw [h4]
    show (bif Nat.beq b' b then true else st.d b') = _
    by_cases e : b' = b
    · subst e; simp
    · simp [beqf e, e]
  have hP : ∀ b', (st.app (.d b :: .v b (some (tyb, cs.length)) :: .r d (.ptr b 0) :: cellWr b 0 cs)).present b' → b' ≠ b → st.present b' := by
    rintro b' hp hne
    unfold St.present at hp ⊢
    rw [hV, hA, if_neg hne] at hp
    exact hp
  have hold : ∀ b' v, b' ≠ b → (ρ.set b (.pointer (some ⟨g, 0, none⟩))) b' = some v → ρ b' = some v := by
    intro b' v hne hv; unfold Env.set at hv; rwa [if_neg hne] at hv
  have hself : ∀ v, (ρ.set b (.pointer (some ⟨g, 0, none⟩))) b = some v → v = .pointer (some ⟨g, 0, none⟩) := by
    intro v hv; unfold Env.set at hv; rw [if_pos rfl] at hv; injection hv with hv; exact hv.symm
  refine ⟨h.fr, ⟨?_, ?_, ?_, ?_, ?_, h.mem.fb, ?_⟩, ?_, ?_, by simp [Act.put, h.sz], h.df, fun b' g' hp => hρ _ _ (h.pin b' g' hp)⟩
  · intro b' hb'
    rw [hD] at hb'
    by_cases e : b' = b
    · rw [if_pos e] at hb'; cases hb'
    · rw [if_neg e] at hb'
      unfold Env.set; rw [if_neg e]; exact h.mem.dom b' hb'
  · intro b' ty' k' hv
    rw [hV] at hv
    by_cases e : b' = b
    · subst e
      rw [if_pos rfl] at hv; injection hv with hv; injection hv with hv1 hv2; subst hv1 hv2
      refine ⟨g, arr, by unfold Env.set; rw [if_pos rfl], k1, k2, fun j x hx => ?_⟩
      have hj : j < cs.length := by rw [← k2]; exact (Array.getElem?_eq_some_iff.1 hx).1
      have hs : cs[j]? = some cs[j] := List.getElem?_eq_getElem hj
      have hc := h7 j _ hs
      rw [Nat.zero_add] at hc
      show Den F _ _ ((St.app _ (cellWr b' 0 cs)).c b' j) x ∧ _
      rw [hc]
      exact ⟨(k3 j _ x hs hx).1.weaken _, (k3 j _ x hs hx).2⟩
    · rw [if_neg e] at hv
      obtain ⟨g', arr', a1, a2, a3, a4⟩ := h.mem.var b' ty' k' hv
      refine ⟨g', arr', hρ _ _ a1, a2, a3, fun j x hx => ⟨?_, (a4 j x hx).2⟩⟩
      show Den F _ _ ((St.app _ (cellWr b 0 cs)).c b' j) x
      rw [h5 b' j e]
      exact up (a4 j x hx).1
  · intro b' A hA'
    rw [hA] at hA'
    obtain ⟨v, xs, a1, a2, a3⟩ := h.mem.arr b' A hA'
    exact ⟨v, xs, hρ _ _ a1, a2, a3⟩
  · intro b1 b2 v1 v2 g' p1 p2 r1 r2 g1 g2
    by_cases e1 : b1 = b
    · by_cases e2 : b2 = b
      · rw [e1, e2]
      · subst e1; rw [hself v1 r1] at g1; injection g1 with g1; subst g1
        exact absurd g2 (hfree b2 v2 (hP _ p2 e2) (hold b2 v2 e2 r2))
    · by_cases e2 : b2 = b
      · subst e2; rw [hself v2 r2] at g2; injection g2 with g2; subst g2
        exact absurd g1 (hfree b1 v1 (hP _ p1 e1) (hold b1 v1 e1 r1))
      · exact h.mem.sep b1 b2 v1 v2 g' (hP _ p1 e1) (hP _ p2 e2) (hold b1 v1 e1 r1) (hold b2 v2 e2 r2) g1 g2
  · intro b' v g' hp hv hbk hF'
    by_cases e : b' = b
    · subst e; rw [hself v hv] at hbk; injection hbk with hbk; subst hbk; exact hF hF'
    · exact h.mem.own b' v g' (hP _ hp e) (hold b' v e hv) hbk hF'
  · intro b' v hv
    by_cases e : b' = b
    · subst e; rw [hself v hv]; rfl
    · exact h.mem.one b' v (hold b' v e hv)
  · intro b' v g' hp hv hbk
    by_cases e : b' = b
    · subst e; rw [hself v hv] at hbk; injection hbk with hbk; subst hbk; exact .inr hg
    · exact h.lo b' v g' (hP _ hp e) (hold b' v e hv) hbk
  · intro t
    rw [getD_put a d _ (by rw [h.sz]; exact hd)]
    show Den F _ _ ((St.app _ (cellWr b 0 cs)).r t) _
    rw [h1]
    show Den F _ _ (bif Nat.beq t d then SV.ptr b 0 else st.r t) _
    by_cases ht : t = d
    · subst ht
      simp only [Nat.beq_refl, cond_true, if_true]
      exact .ptr (by unfold Env.set; rw [if_pos rfl])
    · simp only [beqf ht, cond_false, if_neg ht]
      exact up (h.regs t)

theorem rd_callN {f : FuncId} {xs : List Operand} {ats : Array TypeId} {args : List SV} {b : Nat} {tyb : TypeId} {cs' : List SV} (hd : d < N) (c : FnN P f args tyb cs') :
    RTD P w0 M N F0 ops ⟨some d, .call { callee := .value (.func f), args := xs.toArray, argTypes := ats }, ty, pos, af, none⟩
      (fun st => EvL st xs args ∧ st.d b = false ∧ args.all closedS = true) (evKeys xs ++ ([.d b] ++ [])) (.d b :: .v b (some (tyb, cs'.length)) :: .r d (.ptr b 0) :: cellWr b 0 cs') := by
  refine ⟨?_, (Dep.evL xs args).and ((Dep.d b _).and (Dep.pure _))⟩
  rintro st ⟨h1, h2, h3⟩ a w ⟨F, ρ, h, hF⟩
  rw [if_pos (wanted_none rfl)]
  unfold Oper.wp
  rw [execOp_call_go]
  have e : (#[] ++ xs.toArray.map a.eval ++ #[] : Array Value) = (xs.map a.eval).toArray := by simp
  rw [e, run_callFn c.ok]
  show Calls P f _ w _
  obtain ⟨q1, q2⟩ := den_args h h1 h3
  refine (c.run F w (xs.map a.eval) q1 q2 h.mem.fb).mono ?_
  rintro e w' ⟨g, F', rfl, g1, g2, g3, g4, g5, g6, g7⟩
  have hnew := (h.called g1 g2 g3 g4).addVar (b := b) (d := d) h2 hd g5 (Nat.le_trans h.fr.size g6) g7 (fun b' v hp hv hbk => by
    have := h.mem.lt hp hv hbk; omega)
  exact ⟨F', _, hnew, fun g hg => g2 g (hF.1 g hg), fun g hg => (g3 g hg).elim (fun hg => hF.2 g hg) fun hge => .inr (.inr (Nat.le_trans h.fr.size hge))⟩

/-- The begin of a function whose first argument points to a variable, here named b. -/
def initV (b : Nat) (args : List SV) (ty : TypeId) (cs : List SV) : St :=
  { r := argsR (.ptr b 0 :: args), c := fun x o => bif Nat.beq x b then nthS cs o else .any, v := fun x => bif Nat.beq x b then some (ty, cs.length) else none, a := fun _ => none, d := fun x => Nat.beq x b }

def RetQV (P : Program) (b : Nat) (ty : TypeId) (rs : List ResultVar) (res : SV) (cs' : List SV) : Exit → St → Prop
  | .ret, st | .normal, st => ∃ ss, ResL P st rs ss ∧ res = resOf ss ∧ closedS res = true ∧ st.v b = some (ty, cs'.length) ∧ CellsAre st b 0 cs' ∧ cs'.all closedS = true
  | _, _ => False
theorem RetQV.mk {b : Nat} {rs : List ResultVar} {ss : List SV} {res : SV} {cs' cs'' : List SV} {k : Nat} (h : ResL P st rs ss) (hv : st.v b = some (ty, k)) (hk : Nat.beq k cs''.length = true) (hcs : CellsAre st b 0 cs'') (hr : res = resOf ss) (he : cs' = cs'') (hc : closedS res = true) (hcc : cs'.all closedS = true) : RetQV P b ty rs res cs' .ret st := by
  have e := Nat.eq_of_beq_eq_true hk; subst e; subst he; exact ⟨ss, h, hr, hc, hv, hcs, hcc⟩

theorem nthS_get : ∀ {cs : List SV} {j : Nat} {s : SV}, cs[j]? = some s → nthS cs j = s
  | [], j, s, h => by simp at h
  | c :: r, 0, s, h => by simp at h; exact h
  | c :: r, j + 1, s, h => nthS_get (cs := r) (by simpa using h)

theorem FnV.intro {f : FuncId} {fn : Func} {c : Code} {args : List SV} {ty : TypeId} {cs cs' : List SV} {res : SV} (b N : Nat) (hf : P.funcs[f]? = some fn) (hb : fn.body = some c) (hname : (fn.name == "runtime.NumGoroutine") = false) (hN : fn.ntmps = N) (hl : args.length + 1 ≤ N)
    (h : ∀ (w : World) (F : Nat → Prop) (g : Nat), W P w (Mod.one b g) N F c (initV b args ty cs) (RetQV P b ty fn.results.toList res cs')) : FnV P f args ty cs res cs' := by
  refine ⟨⟨fn, hf, hname, by rw [hb]; rfl⟩, fun F w g vs hlen hden hfb hnF hblk => ?_⟩
  refine calls_of_wp hf hb ?_
  obtain ⟨arr, k1, k2, k3⟩ := hblk
  have beqf : ∀ {x y : Nat}, x ≠ y → Nat.beq x y = false := fun hne => Bool.eq_false_iff.2 (fun h => hne (Nat.eq_of_beq_eq_true h))
  have hself : ∀ b' v, (Env.none.set b (.pointer (some ⟨g, 0, none⟩))) b' = some v → b' = b ∧ v = .pointer (some ⟨g, 0, none⟩) := by
    intro b' v hv; unfold Env.set at hv
    by_cases e : b' = b
    · rw [if_pos e] at hv; injection hv with hv; exact ⟨e, hv.symm⟩
    · rw [if_neg e] at hv; cases hv
  have hr0 : Rel' w (Mod.one b g) N F (Env.none.set b (.pointer (some ⟨g, 0, none⟩))) (initV b args ty cs) { tmps := (Value.pointer (some ⟨g, 0, none⟩) :: vs).toArray ++ Array.replicate (fn.ntmps - (Value.pointer (some ⟨g, 0, none⟩) :: vs).toArray.size) undef, defers := [] } w := by
    refine ⟨Fr.refl w _, ⟨?_, ?_, (fun b A h => by cases h), ?_, ?_, hfb, ?_⟩, ?_, ?_, ?_, rfl, ?_⟩
    · intro b' hb'
      unfold Env.set
      rw [if_neg (fun e => by subst e; rw [show (initV b' args ty cs).d b' = Nat.beq b' b' from rfl, Nat.beq_refl] at hb'; cases hb')]; rfl
    · intro b' ty' k' hv
      have hv' : (bif Nat.beq b' b then some (ty, cs.length) else none) = some (ty', k') := hv
      by_cases e : b' = b
      · subst e
        rw [Nat.beq_refl] at hv'; injection hv' with hv'; injection hv' with e1 e2; subst e1 e2
        refine ⟨g, arr, by unfold Env.set; rw [if_pos rfl], k1, k2, fun j x hx => ?_⟩
        have hj : j < cs.length := by rw [← k2]; exact (Array.getElem?_eq_some_iff.1 hx).1
        have hs := List.getElem?_eq_getElem hj
        show Den F w _ (bif Nat.beq b' b' then nthS cs j else .any) x ∧ _
        rw [Nat.beq_refl, cond_true, nthS_get hs]
        exact ⟨(k3 j _ x hs hx).1.weaken _, (k3 j _ x hs hx).2⟩
      · rw [beqf e] at hv'; cases hv'
    · intro b1 b2 v1 v2 g' _ _ r1 r2 _ _
      rw [(hself b1 v1 r1).1, (hself b2 v2 r2).1]
    · intro b' v g' _ hv hbk hF
      rw [(hself b' v hv).2] at hbk; injection hbk with hbk; subst hbk; exact hnF hF
    · intro b' v hv; rw [(hself b' v hv).2]; rfl
    · intro b' v g' _ hv hbk
      rw [(hself b' v hv).2] at hbk; injection hbk with hbk; exact .inl hbk.symm
    · refine argsR_spec (by simp [hlen]) (fun i s v hs hv => ?_)
      cases i with
      | zero => simp at hs hv; subst hs hv; exact .ptr (by unfold Env.set; rw [if_pos rfl])
      | succ i => exact (hden i s v (by simpa using hs) (by simpa using hv)).weaken _
    · simp only [Array.size_append, List.size_toArray, Array.size_replicate, List.length_cons]; omega
    · intro b' g' hp
      exact hp
  refine Code.wp_mono ?_ (h w F g _ w ⟨F, _, hr0, fun _ h => h, fun _ h => .inl h⟩)
  rintro e a' w' ⟨st', hq, F', ρ', hr, hF1, hF2⟩
  have fin : (∃ ss, ResL P st' fn.results.toList ss ∧ res = resOf ss ∧ closedS res = true ∧ st'.v b = some (ty, cs'.length) ∧ CellsAre st' b 0 cs' ∧ cs'.all closedS = true) →
      a'.defers = [] ∧ ∃ v, (results fn a'.tmps).run P w' = .ok v w' ∧ ∃ r F', Ending.returned v = .returned r ∧ Fr w (fun x => x = g) w' ∧ (∀ g, F g → F' g) ∧ (∀ g, F' g → F g ∨ w.heap.size ≤ g) ∧ (∀ g, F' g → g < w'.heap.size) ∧ Den F' w' Env.none res r ∧ BlkIs F' w' g ty cs' := by
    rintro ⟨ss, q1, q2, q3, q4, q5, q6⟩
    have hρ' : ρ' b = some (.pointer (some ⟨g, 0, none⟩)) := hr.pin b _ (if_pos rfl)
    have hpb : st'.present b := .inl (by rw [q4]; simp)
    have hnF' : ∀ x, F' x → F x ∨ w.heap.size ≤ x := by
      intro x hx
      rcases hF2 x hx with h1 | h1 | h1
      · exact .inl h1
      · have h1' : x = g := h1
        subst h1'
        exact absurd hx (hr.mem.own b _ _ hpb hρ' rfl)
      · exact .inr h1
    obtain ⟨v, e1, e2⟩ := results_of hr q1 q2 q3
    refine ⟨hr.df, v, e1, v, F', rfl, hr.fr, hF1, hnF', hr.mem.fb, e2, ?_⟩
    obtain ⟨g', arr', b1, b2, b3, b4⟩ := hr.mem.var b ty cs'.length q4
    rw [hρ'] at b1; injection b1 with b1; injection b1 with b1; injection b1 with b1; injection b1 with b1; subst b1
    refine ⟨arr', b2, b3, fun j s x hs hx => ?_⟩
    have hc := q5.at_ j s hs
    rw [Nat.zero_add] at hc
    have h9 := b4 j x hx
    rw [hc] at h9
    exact ⟨h9.1.closed (by simp only [List.all_eq_true] at q6; exact q6 s (List.mem_of_getElem? hs)), h9.2⟩
  cases e with
  | ret => exact fin hq
  | normal => exact fin hq
  | _ => exact hq.elim

def RetQN (ty : TypeId) (rs : List ResultVar) (cs' : List SV) : Exit → St → Prop
  | .ret, st | .normal, st => ∃ t b, rs = [.tmp t] ∧ st.r t = .ptr b 0 ∧ st.v b = some (ty, cs'.length) ∧ CellsAre st b 0 cs' ∧ cs'.all closedS = true
  | _, _ => False
theorem RetQN.mk {t b k : Nat} {cs' cs'' : List SV} (h1 : st.r t = .ptr b 0) (hv : st.v b = some (ty, k)) (hk : Nat.beq k cs''.length = true) (hcs : CellsAre st b 0 cs'') (he : cs' = cs'') (hcc : cs'.all closedS = true) : RetQN ty [.tmp t] cs' .ret st := by
  have e := Nat.eq_of_beq_eq_true hk; subst e; subst he; exact ⟨t, b, rfl, h1, hv, hcs, hcc⟩

theorem FnN.intro {f : FuncId} {fn : Func} {c : Code} {args : List SV} {ty : TypeId} {cs' : List SV} (N : Nat) (hf : P.funcs[f]? = some fn) (hb : fn.body = some c) (hname : (fn.name == "runtime.NumGoroutine") = false) (hN : fn.ntmps = N) (hl : args.length ≤ N)
    (h : ∀ (w : World) (F : Nat → Prop), W P w Mod.none N F c (initSt args) (RetQN ty fn.results.toList cs')) : FnN P f args ty cs' := by
  refine ⟨⟨fn, hf, hname, by rw [hb]; rfl⟩, fun F w vs hlen hden hfb => ?_⟩
  refine calls_of_wp hf hb ?_
  refine Code.wp_mono ?_ (h w F _ w ⟨F, Env.none, init_rel hlen hden hfb hN hl, fun _ h => h, fun _ h => .inl h⟩)
  rintro e a' w' ⟨st', hq, F', ρ', hr, hF1, hF2⟩
  have fin : (∃ t b, fn.results.toList = [.tmp t] ∧ st'.r t = .ptr b 0 ∧ st'.v b = some (ty, cs'.length) ∧ CellsAre st' b 0 cs' ∧ cs'.all closedS = true) →
      a'.defers = [] ∧ ∃ v, (results fn a'.tmps).run P w' = .ok v w' ∧ ∃ g F', Ending.returned v = .returned (.pointer (some ⟨g, 0, none⟩)) ∧ Fr w (fun _ => False) w' ∧ (∀ g, F g → F' g) ∧ (∀ g, F' g → F g ∨ w.heap.size ≤ g) ∧ (∀ g, F' g → g < w'.heap.size) ∧ BlkIs F' w' g ty cs' ∧ w.heap.size ≤ g ∧ ¬ F' g := by
    rintro ⟨t, b, q1, q2, q3, q4, q5⟩
    have hreg := hr.regs t
    rw [q2] at hreg
    have hrs : fn.results = #[.tmp t] := by
      obtain ⟨l⟩ : ∃ l : List ResultVar, fn.results = l.toArray := ⟨fn.results.toList, by simp⟩
      rename_i hl'
      rw [hl'] at q1 ⊢
      simp only at q1
      rw [q1]
    have hres := results_tmp (P := P) (w := w') hrs a'.tmps
    generalize hx : a'.tmps.getD t undef = v at hreg hres
    cases hreg with
    | ptr hρ =>
      rename_i g
      have hpb : st'.present b := .inl (by rw [q3]; simp)
      refine ⟨hr.df, _, hres, g, F', rfl, hr.fr, hF1, fun g hg => (hF2 g hg).elim .inl fun h => h.elim False.elim .inr, hr.mem.fb, ?_, ?_, hr.mem.own b _ _ hpb hρ rfl⟩
      · obtain ⟨g', arr', b1, b2, b3, b4⟩ := hr.mem.var b ty cs'.length q3
        rw [hρ] at b1; injection b1 with b1; injection b1 with b1; injection b1 with b1; injection b1 with b1; subst b1
        refine ⟨arr', b2, b3, fun j s x hs hx => ?_⟩
        have hc := q4.at_ j s hs
        rw [Nat.zero_add] at hc
        have h9 := b4 j x hx
        rw [hc] at h9
        exact ⟨h9.1.closed (by simp only [List.all_eq_true] at q5; exact q5 s (List.mem_of_getElem? hs)), h9.2⟩
      · rcases hr.lo b _ _ hpb hρ rfl with hf | hge
        · exact hf.elim
        · exact hge
  cases e with
  | ret => exact fin hq
  | normal => exact fin hq
  | _ => exact hq.elim

end
end Go.Sp
