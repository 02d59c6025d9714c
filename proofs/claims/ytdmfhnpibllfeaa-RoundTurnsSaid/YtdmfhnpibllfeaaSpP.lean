/- The engine, part P: function values that are handed on, and functions that write into an array that they are given. No condition. -/
import Derived.Test.YtdmfhnpibllfeaaSpO
namespace Go.Sp
open Go Go.RowKit

/-- A function value: wherever the blocks C are as in w, it returns r at the arguments vs, R vs r, and nothing that was there has changed. -/
def CmpOk (P : Program) (C : Nat → Prop) (w : World) (v : Value) (R : List Value → Value → Prop) : Prop :=
  (∀ g, C g → g < w.heap.size) ∧ ∃ f caps, v = .func (.func f) #[] caps ∧ FnOk P f ∧ ∀ w', (∀ g, C g → w'.heap[g]? = w.heap[g]?) → ∀ vs r, R vs r →
    Calls P f (vs.toArray ++ caps) w' fun e w'' => e = .returned r ∧ Fr w' (fun _ => False) w''

theorem CmpOk.later {P : Program} {C : Nat → Prop} {w w' : World} {v : Value} {R : List Value → Value → Prop} (h : CmpOk P C w v R) (hs : ∀ g, C g → w'.heap[g]? = w.heap[g]?) : CmpOk P C w' v R := by
  obtain ⟨h0, f, caps, h1, h2, h3⟩ := h
  refine ⟨fun g hg => ?_, f, caps, h1, h2, fun w2 hw2 => h3 w2 (fun g hg => (hw2 g hg).trans (hs g hg))⟩
  have h4 := hs g hg
  rw [Array.getElem?_eq_getElem (h0 g hg)] at h4
  exact (Array.getElem?_eq_some_iff.1 h4).1

/-- What an array holds, of values alone. -/
def ArrIs (w : World) (v : Value) (A : Arr) : Prop :=
  ∃ xs, w.ownsRow 0 A.ty A.k v A.n xs ∧ ∀ i j, i < A.n → j < A.k → ∃ x, xs[i * A.k + j]? = some x ∧ A.g i j = .val x ∧ x.oneCell' = true

/-- A function that writes into the array that it is given first, and calls the function value that it is given last. -/
structure FnS (P : Program) (f : FuncId) (args : List Value) (R : List Value → Value → Prop) (A A' : Arr) : Prop where
  ok : FnOk P f
  run : ∀ (C : Nat → Prop) (w : World) (v0 vc : Value), CmpOk P C w vc R → ArrIs w v0 A → (∀ g, blkOf v0 = some g → ¬ C g) →
    Calls P f (v0 :: (args ++ [vc])).toArray w fun e w' => e = .returned (.tuple #[]) ∧ Fr w (fun g => blkOf v0 = some g) w' ∧ ArrIs w' v0 A'

section
variable {P : Program} {w0 : World} {M : Mod} {N : Nat} {F0 : Nat → Prop} {ops : Array Oper}
variable {F : Nat → Prop} {ρ : Env} {st : St} {a : Act} {w : World}
variable {d : Nat} {x y z : Operand} {ty ty' : TypeId} {pos : String} {af : Array Edge}

theorem rd_makeFunc {f : FuncId} {xs : List Operand} {ss : List SV} (hd : d < N) :
    RTD P w0 M N F0 ops ⟨some d, .makeFunc (.func f) #[] xs.toArray, ty, pos, af, none⟩ (fun st => EvL st xs ss) (evKeys xs) [.r d (.clo f ss)] := by
  refine ⟨RT.value rfl rfl hd ?_, Dep.evL xs ss⟩
  rintro st h1 F ρ a w h
  have e : (xs.toArray.map a.eval : Array Value) = (xs.map a.eval).toArray := by simp
  have e0 : ((#[] : Array Operand).map a.eval) = #[] := by simp
  refine ⟨.func (.func f) #[] (xs.map a.eval).toArray, ?_, .clo (by rw [List.length_map]; exact h1.length.symm) fun i s v hs hv => ?_⟩
  · simp only [execOp, Instr.makeFunc, Sem.run_bind, Sem.run_pure, Result.andThen_ok, e, e0]
  · rw [List.getElem?_map] at hv
    cases hx : xs[i]? with
    | none => rw [hx] at hv; cases hv
    | some x =>
      rw [hx] at hv; injection hv with hv; subst hv
      exact h.eval (h1.at_ i x s hx hs)

/-- The world behind a call that wrote into array b alone. -/
theorem Rel'.calledS {w' : World} {b : Nat} {v0 : Value} {A A' : Arr} (h : Rel' w0 M N F ρ st a w) (hA : st.a b = some A) (hρ : ρ b = some v0) (hf : Fr w (fun g => blkOf v0 = some g) w') (hi : ArrIs w' v0 A') :
    Rel' w0 M N F ρ (st.put (.a b (some A'))) a w' := by
  obtain ⟨xs, h1, h2⟩ := hi
  have hg : w.grownBy w' (blkOf v0) := ⟨hf.os, hf.tape, hf.output, hf.size, fun k hk hne => hf.blk k hk (fun e => hne e.symm)⟩
  have h0 := (h.dropArr b).growRow hg (fun g hg => arr_alone h hA hρ hg)
  have h5 := h0.putArr (b := b) (v := v0) (A := A') (xs := xs) (by show (bif Nat.beq b b then none else _) = none; simp) (arr_novar h.mem hA) hρ h1 (fun i j hi hj => by
    obtain ⟨x, c1, c2, c3⟩ := h2 i j hi hj
    exact ⟨x, c1, by rw [c2]; exact .val _, c3⟩) (fun g hg => arr_alone h hA hρ hg)
  rw [put_put_a] at h5; exact h5

/-- The elements of an array are values alone. -/
def flatArr (A : Arr) : Prop := ∀ i j, i < A.n → j < A.k → ∃ x, A.g i j = .val x

theorem arrIs_of (h : MemOk F w ρ st) {b : Nat} {v : Value} {A : Arr} (hA : st.a b = some A) (hρ : ρ b = some v) (hfl : flatArr A) : ArrIs w v A := by
  obtain ⟨v', xs, a1, a2, a3⟩ := h.arr b A hA
  rw [hρ] at a1; injection a1 with a1; subst a1
  refine ⟨xs, a2, fun i j hi hj => ?_⟩
  obtain ⟨x, c1, c2, c3⟩ := a3 i j hi hj
  obtain ⟨u, hu⟩ := hfl i j hi hj
  rw [hu] at c2
  refine ⟨x, c1, ?_, c3⟩
  rw [hu, Den.val_iff.1 c2]

theorem EvL.vals (h : Rel' w0 M N F ρ st a w) : ∀ {xs : List Operand} {vs : List Value}, EvL st xs (vs.map .val) → xs.map a.eval = vs
  | [], [], _ => rfl
  | x :: xs, v :: vs, ⟨h0, h1⟩ => by
    rw [List.map_cons, h.evV h0, EvL.vals h h1]
  | [], _ :: _, h' => h'.elim
  | _ :: _, [], h' => h'.elim

/-- Inside such a function: the call of the function value. -/
theorem rd_callClo {C : Nat → Prop} {R : List Value → Value → Prop} {vc r : Value} {t : Nat} {xs : List Operand} {ats : Array TypeId} (vs : List Value) (hd : d < N) (hC : CmpOk P C w0 vc R) (hM : ∀ g, C g → ¬ M.blk g) :
    RTD P w0 M N F0 ops ⟨some d, .call { callee := .value (.tmp t), args := xs.toArray, argTypes := ats }, ty, pos, af, none⟩ (fun st => Ev st (.tmp t) (.val vc) ∧ EvL st xs (vs.map .val) ∧ R vs r) (opKeys (.tmp t) ++ (evKeys xs ++ [])) [.r d (.val r)] := by
  refine ⟨?_, (Dep.ev (.tmp t) _).and ((Dep.evL xs _).and (Dep.pure _))⟩
  rintro st ⟨h1, h2, h3⟩ a w ⟨F, ρ, h, hF⟩
  rw [if_pos (wanted_none rfl)]
  obtain ⟨g0, f, caps, rfl, g1, g2⟩ := hC
  have hv := h.evV h1
  have hargs := EvL.vals h h2
  have hx : (execOp a.eval ⟨some d, .call { callee := .value (.tmp t), args := xs.toArray, argTypes := ats }, ty, pos, af, none⟩) = callFunc f (#[] ++ xs.toArray.map a.eval ++ caps) := by
    simp only [execOp, resolve, hv]
    rfl
  unfold Oper.wp
  rw [hx]
  have e : (#[] ++ xs.toArray.map a.eval ++ caps : Array Value) = vs.toArray ++ caps := by
    rw [← hargs]; simp
  rw [e, run_callFn g1]
  show Calls P f _ w _
  refine (g2 w (fun g hg => h.fr.blk g (g0 g hg) (hM g hg)) vs r h3).mono ?_
  rintro e w' ⟨rfl, hf⟩
  exact ⟨F, ρ, (h.grow hf.size (fun g hg => hf.blk g hg id) hf.os hf.tape hf.output).setR hd (.val _), hF⟩

/-- Inside such a function: a call of another one, with the same function value. -/
theorem rd_callS {C : Nat → Prop} {R : List Value → Value → Prop} {vc : Value} {f : FuncId} {xs : List Operand} {ats : Array TypeId} {b : Nat} {A A' : Arr} (vs : List Value) (hd : d < N) (c : FnS P f vs R A A') (hC : CmpOk P C w0 vc R) (hM : ∀ g, C g → ¬ M.blk g) (hfl : flatArr A) :
    RTD P w0 M N F0 ops ⟨some d, .call { callee := .value (.func f), args := (x :: (xs ++ [z])).toArray, argTypes := ats }, ty, pos, af, none⟩
      (fun st => Ev st x (.own b) ∧ st.a b = some A ∧ EvL st xs (vs.map .val) ∧ Ev st z (.val vc)) (opKeys x ++ ([.a b] ++ (evKeys xs ++ opKeys z))) [.a b (some A'), .r d (.val (.tuple #[]))] := by
  refine ⟨?_, (Dep.ev x _).and ((Dep.a b _).and ((Dep.evL xs _).and (Dep.ev z _)))⟩
  rintro st ⟨h1, h2, h3, h4⟩ a w ⟨F, ρ, h, hF⟩
  rw [if_pos (wanted_none rfl)]
  unfold Oper.wp
  rw [execOp_call_go]
  have hv := h.evV h4
  have hargs := EvL.vals h h3
  have h6 := h.eval h1
  generalize hx : a.eval x = v0 at h6
  cases h6 with
  | own hρ =>
  have e : (#[] ++ (x :: (xs ++ [z])).toArray.map a.eval ++ #[] : Array Value) = (v0 :: (vs ++ [vc])).toArray := by
    rw [← hargs, ← hv, ← hx]; simp
  rw [e, run_callFn c.ok]
  show Calls P f _ w _
  have hnC : ∀ g, blkOf v0 = some g → ¬ C g := by
    intro g hg hCg
    rcases h.lo b v0 g (.inr (by rw [h2]; simp)) hρ hg with hm | hm
    · exact hM g hCg hm
    · exact absurd (hC.1 g hCg) (Nat.not_lt.2 hm)
  refine (c.run C w v0 vc (hC.later fun g hg => h.fr.blk g (hC.1 g hg) (hM g hg)) (arrIs_of h.mem h2 hρ hfl) hnC).mono ?_
  rintro e w' ⟨rfl, hf, hi⟩
  exact ⟨F, ρ, (h.calledS h2 hρ hf hi).setR hd (.val _), hF⟩

/-! ### Such a function's contract -/

def Mod.arr (b : Nat) (v : Value) : Mod := ⟨fun g => blkOf v = some g, fun x => if x = b then some v else .none⟩

def initS (b : Nat) (args : List Value) (vc : Value) (A : Arr) : St :=
  { r := argsR (.own b :: (args.map .val ++ [.val vc])), c := fun _ _ => .any, v := fun _ => none, a := fun x => bif Nat.beq x b then some A else none, d := fun x => Nat.beq x b }

def RetQS (b : Nat) (rs : List ResultVar) (A : Arr) : Exit → St → Prop
  | .ret, st | .normal, st => rs = [] ∧ ∃ A', st.a b = some A' ∧ A = A' ∧ flatArr A
  | _, _ => False
theorem RetQS.mk {b : Nat} {A A' : Arr} (h : st.a b = some A') (e : A = A') (hfl : flatArr A) : RetQS b [] A .normal st := ⟨rfl, A', h, e, hfl⟩

theorem PinOk.arr {π : Nat → Nat} {names : List Nat} {b : Nat} {v : Value} (h : memN names b = true) (h' : π b = b) : PinOk (Mod.arr b v) π names := by
  intro b' g' hp
  have hp' : (if b' = b then some v else Option.none) = some g' := hp
  by_cases e : b' = b
  · subst e; exact ⟨memN_iff.1 h, h'⟩
  · rw [if_neg e] at hp'; cases hp'

theorem FnS.intro {f : FuncId} {fn : Func} {c : Code} {args : List Value} {R : List Value → Value → Prop} {A A' : Arr} (b N : Nat) (hf : P.funcs[f]? = some fn) (hb : fn.body = some c) (hname : (fn.name == "runtime.NumGoroutine") = false) (hN : fn.ntmps = N) (hl : args.length + 2 ≤ N)
    (h : ∀ (w : World) (C : Nat → Prop) (v0 vc : Value), CmpOk P C w vc R → (∀ g, C g → ¬ (Mod.arr b v0).blk g) → W P w (Mod.arr b v0) N (fun _ => False) c (initS b args vc A) (RetQS b fn.results.toList A')) : FnS P f args R A A' := by
  refine ⟨⟨fn, hf, hname, by rw [hb]; rfl⟩, fun C w v0 vc hC hA hnC => ?_⟩
  refine calls_of_wp hf hb ?_
  obtain ⟨xs, h1, h2⟩ := hA
  have hone : v0.oneCell' = true := by rcases h1.2 with ⟨rfl, _⟩ | ⟨g, cap, cur, rfl, _⟩ <;> rfl
  let ρ : Env := Env.none.set b v0
  have hρ : ρ b = some v0 := by show (if b = b then _ else _) = _; rw [if_pos rfl]
  have hρ' : ∀ b' v, ρ b' = some v → b' = b ∧ v = v0 := by
    intro b' v hv
    have hv : (if b' = b then some v0 else none) = some v := hv
    by_cases e : b' = b
    · rw [if_pos e] at hv; injection hv with hv; exact ⟨e, hv.symm⟩
    · rw [if_neg e] at hv; cases hv
  have hblk : ∀ g, blkOf v0 = some g → g < w.heap.size := by
    intro g hg
    rcases h1.2 with ⟨rfl, _⟩ | ⟨g', cap, cur, rfl, _, hh, _⟩
    · cases hg
    · injection hg with hg; subst hg; exact (Array.getElem?_eq_some_iff.1 hh).1
  have hlen : (SV.own b :: (args.map SV.val ++ [SV.val vc])).length = (v0 :: (args ++ [vc])).length := by simp
  have init : Rel' w (Mod.arr b v0) N (fun _ => False) ρ (initS b args vc A) { tmps := (v0 :: (args ++ [vc])).toArray ++ Array.replicate (fn.ntmps - (v0 :: (args ++ [vc])).toArray.size) undef, defers := [] } w := by
    refine ⟨Fr.refl w _, ⟨?_, (fun b ty k h => by cases h), ?_, ?_, (fun _ _ _ _ _ _ h => h), (fun _ h => h.elim), ?_⟩, ?_, ?_, ?_, rfl, ?_⟩
    · intro b' hb'
      have hb' : Nat.beq b' b = false := hb'
      show (if b' = b then some v0 else none) = none
      rw [if_neg (fun e => by subst e; simp at hb')]
    · intro b' A2 hA2
      have hA2 : (bif Nat.beq b' b then some A else none) = some A2 := hA2
      by_cases e : b' = b
      · subst e
        simp only [Nat.beq_refl, cond_true] at hA2
        injection hA2 with hA2; subst hA2
        refine ⟨v0, xs, hρ, h1, fun i j hi hj => ?_⟩
        obtain ⟨x, c1, c2, c3⟩ := h2 i j hi hj
        exact ⟨x, c1, by rw [c2]; exact .val _, c3⟩
      · rw [beqF e] at hA2; cases hA2
    · intro b1 b2 v1 v2 g _ _ r1 r2 _ _
      rw [(hρ' b1 v1 r1).1, (hρ' b2 v2 r2).1]
    · intro b' v hv
      rw [(hρ' b' v hv).2]; exact hone
    · intro b' v g _ hv hg
      rw [(hρ' b' v hv).2] at hg
      exact .inl hg
    · refine argsR_spec hlen fun i s v hs hv => ?_
      cases i with
      | zero => simp at hs hv; subst hs hv; exact .own hρ
      | succ i =>
        simp only [List.getElem?_cons_succ] at hs hv
        have hs' : (args ++ [vc]).map SV.val = args.map SV.val ++ [SV.val vc] := by simp
        rw [← hs', List.getElem?_map, hv] at hs
        injection hs with hs; subst hs; exact .val _
    · simp only [Array.size_append, List.size_toArray, Array.size_replicate, List.length_cons, List.length_append, List.length_nil]; omega
    · intro b' v hv
      have hv : (if b' = b then some v0 else Option.none) = some v := hv
      show (if b' = b then some v0 else none) = some v
      exact hv
  refine Code.wp_mono ?_ (h w C v0 vc hC (fun g q1 q2 => hnC g q2 q1) _ w ⟨_, ρ, init, fun _ h => h, fun _ h => h.elim⟩)
  rintro e a' w' ⟨st', hq, F', ρ', hr, hF1, hF2⟩
  have fin : (fn.results.toList = [] ∧ ∃ A2, st'.a b = some A2 ∧ A' = A2 ∧ flatArr A') →
      a'.defers = [] ∧ ∃ v, (results fn a'.tmps).run P w' = .ok v w' ∧ Ending.returned v = .returned (.tuple #[]) ∧ Fr w (fun g => blkOf v0 = some g) w' ∧ ArrIs w' v0 A' := by
    rintro ⟨q1, A2, q2, rfl, q3⟩
    obtain ⟨v, e1, e2⟩ := results_of (P := P) (res := .tup []) (ss := []) hr (by rw [q1]; trivial) rfl rfl
    have hv : v = .tuple #[] := by
      cases e2 with
      | @tup _ _ vs hl _ => obtain rfl : vs = [] := List.eq_nil_of_length_eq_zero hl.symm; rfl
    subst hv
    exact ⟨hr.df, _, e1, rfl, hr.fr, arrIs_of hr.mem q2 (hr.pin b v0 (if_pos rfl)) q3⟩
  cases e with
  | ret => exact fin hq
  | normal => exact fin hq
  | _ => exact hq.elim

/-! ### A call that hands on a function value of this function's own -/

/-- What a captured variable is to the function value: a pointer that is only read. -/
def capR (s : SV) : SV := .sel 1 1 (fun _ _ => s) 0 0
def CapsAre (st : St) : List SV → List SV → Prop
  | [], [] => True
  | c :: r, s :: t => (∃ b ty, c = .ptr b 0 ∧ st.v b = some (ty, 1) ∧ st.c b 0 = s ∧ closed1 s = true) ∧ CapsAre st r t
  | _, _ => False
def capKeys : List SV → List Key
  | [] => []
  | .ptr b _ :: r => .v b :: .c b 0 :: capKeys r
  | _ :: r => capKeys r
theorem Dep.caps : ∀ (cs ss : List SV), Dep (fun st => CapsAre st cs ss) (capKeys cs)
  | [], [] => fun _ _ _ h => h
  | c :: r, s :: t => by
    rintro st st' h ⟨⟨b, ty, rfl, h1, h2, h3⟩, h4⟩
    exact ⟨⟨b, ty, rfl, Dep.v b _ st st' (fun κ hκ => h κ (by simp [capKeys] at hκ ⊢; simp [hκ])) h1, Dep.c b 0 _ st st' (fun κ hκ => h κ (by simp [capKeys] at hκ ⊢; simp [hκ])) h2, h3⟩,
      Dep.caps r t st st' (fun κ hκ => h κ (by simp [capKeys, hκ])) h4⟩
  | [], _ :: _ => fun _ _ _ h => h.elim
  | _ :: _, [] => fun _ _ _ h => h.elim
theorem CapsAre.length : ∀ {cs ss : List SV}, CapsAre st cs ss → cs.length = ss.length
  | [], [], _ => rfl
  | _ :: _, _ :: _, ⟨_, h⟩ => by simp [CapsAre.length h]
  | [], _ :: _, h => h.elim
  | _ :: _, [], h => h.elim

/-- The blocks that a function value may read: those that are only read, and those of variables. -/
def capBlk (F : Nat → Prop) (ρ : Env) (st : St) (g : Nat) : Prop := F g ∨ ∃ b x v, st.v b = some x ∧ ρ b = some v ∧ blkOf v = some g

theorem CapsAre.den (h : Rel' w0 M N F ρ st a w) : ∀ {cs ss : List SV}, CapsAre st cs ss → ∀ (i : Nat) (c s : SV) (v : Value), cs[i]? = some c → ss[i]? = some s → Den F w ρ c v →
    ∀ w', (∀ g, capBlk F ρ st g → w'.heap[g]? = w.heap[g]?) → Den (capBlk F ρ st) w' Env.none (capR s) v
  | [], [], _, i, c, s, v, h1, _, _, _, _ => by simp at h1
  | c0 :: r, s0 :: t, ⟨h0, h1⟩, i, c, s, v, hc, hs, hd, w', hw => by
    cases i with
    | succ i => exact CapsAre.den h h1 i c s v (by simpa using hc) (by simpa using hs) hd w' hw
    | zero =>
      simp at hc hs
      subst hc hs
      obtain ⟨b, ty, rfl, q1, q2, q3⟩ := h0
      cases hd with
      | ptr hρ =>
        rename_i g
        obtain ⟨g', arr, a1, a2, a3, a4⟩ := h.mem.var b ty 1 q1
        rw [hρ] at a1; injection a1 with a1; injection a1 with a1; injection a1 with a1; injection a1 with a1; subst a1
        have hC : capBlk F ρ st g := .inr ⟨b, _, _, q1, hρ, rfl⟩
        have hx : arr[0]? = some arr[0] := Array.getElem?_eq_getElem (by omega)
        obtain ⟨b1, b2⟩ := a4 0 _ hx
        rw [q2] at b1
        have hcell : w'.cell? ⟨g, 0, none⟩ = some arr[0] := by
          rw [World.cell?_of_block (hw g hC), cell_of_row w g 0 arr ty (0, 0) a2]; exact hx
        have hden : Den (capBlk F ρ st) w' Env.none s0 arr[0] :=
          (b1.closed1 (ρ' := Env.none) q3).mono (fun g hg => .inl hg) (fun ad hF => World.cell?_of_block (hw _ (.inl hF))) _ (fun _ _ h => h)
        have hsl : Den (capBlk F ρ st) w' Env.none (.sl 1 1 (fun _ _ => s0)) (.slice (some ⟨g, 0, none⟩) 1 1) := by
          refine .sl (fun _ _ => arr[0]) hC (Nat.le_refl _) (by unfold maxLen; omega) ?_ (fun _ _ _ _ => b2) (fun _ _ _ _ => hden)
          intro i j hi hj
          obtain rfl : i = 0 := by omega
          obtain rfl : j = 0 := by omega
          rw [Addr.add_lit]; exact hcell
        have := Den.sel (ρ := Env.none) (o := 0) hsl (show 0 < 1 by omega)
        rw [Addr.add_lit] at this
        exact this
  | [], _ :: _, h', _, _, _, _, _, _, _, _, _ => h'.elim
  | _ :: _, [], h', _, _, _, _, _, _, _, _, _ => h'.elim

theorem rd_callSC {R : List Value → Value → Prop} {f g0 : FuncId} {xs : List Operand} {ats : Array TypeId} {b : Nat} {A A' : Arr} (vs : List Value) (caps ss : List SV) (hd : d < N) (c : FnS P f vs R A A') (hfl : flatArr A)
    (hg : ∀ us r, R us r → FnC P g0 (us.map .val ++ ss.map capR) (.val r)) (hok : FnOk P g0) :
    RTD P w0 M N F0 ops ⟨some d, .call { callee := .value (.func f), args := (x :: (xs ++ [z])).toArray, argTypes := ats }, ty, pos, af, none⟩
      (fun st => Ev st x (.own b) ∧ st.a b = some A ∧ EvL st xs (vs.map .val) ∧ Ev st z (.clo g0 caps) ∧ CapsAre st caps ss) (opKeys x ++ ([.a b] ++ (evKeys xs ++ (opKeys z ++ capKeys caps)))) [.a b (some A'), .r d (.val (.tuple #[]))] := by
  refine ⟨?_, (Dep.ev x _).and ((Dep.a b _).and ((Dep.evL xs _).and ((Dep.ev z _).and (Dep.caps caps ss))))⟩
  rintro st ⟨h1, h2, h3, h4, h5⟩ a w ⟨F, ρ, h, hF⟩
  rw [if_pos (wanted_none rfl)]
  unfold Oper.wp
  rw [execOp_call_go]
  have hargs := EvL.vals h h3
  have h6 := h.eval h1
  have h7 := h.eval h4
  generalize hx : a.eval x = v0 at h6
  generalize hz : a.eval z = vc at h7
  cases h6 with
  | own hρ =>
  cases h7 with
  | @clo _ _ _ us hl hi =>
  have e : (#[] ++ (x :: (xs ++ [z])).toArray.map a.eval ++ #[] : Array Value) = (v0 :: (vs ++ [.func (.func g0) #[] us.toArray])).toArray := by
    rw [← hargs, ← hz, ← hx]; simp
  rw [e, run_callFn c.ok]
  show Calls P f _ w _
  have hlt : ∀ g, capBlk F ρ st g → g < w.heap.size := by
    rintro g (hg | ⟨b', x, v, q1, q2, q3⟩)
    · exact h.mem.fb g hg
    · exact h.mem.lt (.inl (by rw [q1]; simp)) q2 q3
  have hC : CmpOk P (capBlk F ρ st) w (.func (.func g0) #[] us.toArray) R := by
    refine ⟨hlt, g0, us.toArray, rfl, hok, fun w' hw' as r hR => ?_⟩
    have hcl := hl.symm.trans h5.length
    have e2 : (as.toArray ++ us.toArray : Array Value) = (as ++ us).toArray := by simp
    rw [e2]
    refine ((hg as r hR).run (capBlk F ρ st) w' (as ++ us) (by simp; omega) (fun i s v hs hv => ?_) (fun g hgg => ?_)).mono ?_
    · by_cases hlt : i < as.length
      · rw [List.getElem?_append_left (by simpa using hlt)] at hs
        rw [List.getElem?_append_left hlt, ] at hv
        rw [List.getElem?_map, hv] at hs
        injection hs with hs; subst hs; exact .val _
      · have hge := Nat.le_of_not_lt hlt
        rw [List.getElem?_append_right (by simpa using hge), List.length_map] at hs
        rw [List.getElem?_append_right hge] at hv
        rw [List.getElem?_map] at hs
        cases hs0 : ss[i - as.length]? with
        | none => rw [hs0] at hs; cases hs
        | some s0 =>
          rw [hs0] at hs; injection hs with hs; subst hs
          have hil : i - as.length < caps.length := by rw [hl]; exact (List.getElem?_eq_some_iff.1 hv).1
          exact h5.den h _ _ _ _ (List.getElem?_eq_getElem hil) hs0 (hi _ _ _ (List.getElem?_eq_getElem hil) hv) w' hw'
    · have h4 := hw' g hgg
      rw [Array.getElem?_eq_getElem (hlt g hgg)] at h4
      exact (Array.getElem?_eq_some_iff.1 h4).1
    · rintro e w'' ⟨r', F', rfl, q1, _, _, _, q5⟩
      exact ⟨by rw [Den.val_iff.1 q5], q1⟩
  have hnC : ∀ g, blkOf v0 = some g → ¬ capBlk F ρ st g := by
    rintro g hg (hF | ⟨b', x, v, q1, q2, q3⟩)
    · exact h.mem.own b v0 g (.inr (by rw [h2]; simp)) hρ hg hF
    · have := h.mem.sep b' b v v0 g (.inl (by rw [q1]; simp)) (.inr (by rw [h2]; simp)) q2 hρ q3 hg
      subst this
      have hn := arr_novar h.mem h2
      rw [hn] at q1; cases q1
  refine (c.run _ w v0 _ hC (arrIs_of h.mem h2 hρ hfl) hnC).mono ?_
  rintro e w' ⟨rfl, hf, hi⟩
  exact ⟨F, ρ, (h.calledS h2 hρ hf hi).setR hd (.val _), hF⟩

end
end Go.Sp
