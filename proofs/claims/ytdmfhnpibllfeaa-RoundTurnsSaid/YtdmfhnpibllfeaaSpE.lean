/- The engine, part E: stores, new variables, guards, calls. No condition. -/
import Derived.Test.YtdmfhnpibllfeaaSpD
namespace Go.Sp
open Go Go.RowKit

theorem RT.stepW {P : Program} {w0 : World} {M : Mod} {N : Nat} {F0 : Nat → Prop} {ops : Array Oper} {o : Oper} {pre : St → Prop} {wr : List Wr} (hg : o.guard = none)
    (f : ∀ st, pre st → ∀ F ρ a w, Rel' w0 M N F ρ st a w → ∃ v ρ' w', ((execOp a.eval o).run P w = .ok (.value v) w' ∨ ((execOp a.eval o).run P w = .ok .skip w' ∧ v = undef)) ∧ Rel' w0 M N F ρ' (st.app wr) (a.put o.dst v) w') :
    RT P w0 M N F0 ops o pre wr := by
  intro st hp a w ⟨F, ρ, h, hF⟩
  rw [if_pos (wanted_none hg)]
  obtain ⟨v, ρ', w', hr, hk⟩ := f st hp F ρ a w h
  unfold Oper.wp
  rcases hr with hr | ⟨hr, rfl⟩ <;> rw [hr] <;> exact ⟨F, ρ', hk, hF⟩

def allOne (cs : List SV) : Bool := cs.all oneS
def evKeys : List Operand → List Key
  | [] => []
  | x :: r => opKeys x ++ evKeys r
def EvL (st : St) : List Operand → List SV → Prop
  | [], [] => True
  | x :: r, s :: t => Ev st x s ∧ EvL st r t
  | _, _ => False
theorem Dep.evL : ∀ (xs : List Operand) (ss : List SV), Dep (fun st => EvL st xs ss) (evKeys xs)
  | [], [] => fun _ _ _ h => h
  | x :: r, s :: t => fun st st' h ⟨h0, h1⟩ => ⟨Dep.ev x s st st' (fun κ hκ => h κ (List.mem_append.2 (.inl hκ))) h0, Dep.evL r t st st' (fun κ hκ => h κ (List.mem_append.2 (.inr hκ))) h1⟩
  | [], _ :: _ => fun _ _ _ h => h
  | _ :: _, [] => fun _ _ _ h => h

/-- What is known at every environment: no variable and no own array is named. -/
def closed1 : SV → Bool
  | .val _ | .sl .. | .sel .. => true
  | _ => false
def closed2 : SV → Bool
  | .val _ | .sl .. | .sel .. => true
  | .agg cs => cs.all closed1
  | _ => false
def closedS : SV → Bool
  | .val _ | .sl .. | .sel .. => true
  | .agg cs => cs.all closed1
  | .tup cs => cs.all closed2
  | _ => false
theorem Den.closed1 {F : Nat → Prop} {w : World} {ρ ρ' : Env} {s : SV} {v : Value} (h : Den F w ρ s v) (hc : Sp.closed1 s = true) : Den F w ρ' s v := by
  cases h with
  | val => exact .val _
  | any => cases hc
  | ptr => cases hc
  | ael => cases hc
  | own => cases hc
  | nilsl => exact .nilsl
  | sl cell a1 a2 a3 a4 a5 a6 => exact .sl cell a1 a2 a3 a4 a5 a6
  | sel a1 a2 => exact .sel a1 a2
  | agg => cases hc
  | tup => cases hc
  | when => cases hc
  | clo => cases hc
theorem Den.closed2 {F : Nat → Prop} {w : World} {ρ ρ' : Env} {s : SV} {v : Value} (h : Den F w ρ s v) (hc : Sp.closed2 s = true) : Den F w ρ' s v := by
  cases h with
  | val => exact .val _
  | any => cases hc
  | ptr => cases hc
  | ael => cases hc
  | own => cases hc
  | nilsl => exact .nilsl
  | sl cell a1 a2 a3 a4 a5 a6 => exact .sl cell a1 a2 a3 a4 a5 a6
  | sel a1 a2 => exact .sel a1 a2
  | agg hl hi => exact .agg hl fun i s v hs hv => (hi i s v hs hv).closed1 (by simp only [Sp.closed2, List.all_eq_true] at hc; exact hc s (List.mem_of_getElem? hs))
  | tup => cases hc
  | when => cases hc
  | clo => cases hc
theorem Den.closed {F : Nat → Prop} {w : World} {ρ ρ' : Env} {s : SV} {v : Value} (h : Den F w ρ s v) (hc : closedS s = true) : Den F w ρ' s v := by
  cases h with
  | val => exact .val _
  | any => cases hc
  | ptr => cases hc
  | ael => cases hc
  | own => cases hc
  | nilsl => exact .nilsl
  | sl cell a1 a2 a3 a4 a5 a6 => exact .sl cell a1 a2 a3 a4 a5 a6
  | sel a1 a2 => exact .sel a1 a2
  | agg hl hi => exact .agg hl fun i s v hs hv => (hi i s v hs hv).closed1 (by simp only [closedS, List.all_eq_true] at hc; exact hc s (List.mem_of_getElem? hs))
  | tup hl hi => exact .tup hl fun i s v hs hv => (hi i s v hs hv).closed2 (by simp only [closedS, List.all_eq_true] at hc; exact hc s (List.mem_of_getElem? hs))
  | when => cases hc
  | clo => cases hc

/-- A function that has a body. -/
def FnOk (P : Program) (f : FuncId) : Prop := ∃ fn, P.funcs[f]? = some fn ∧ (fn.name == "runtime.NumGoroutine") = false ∧ fn.body.isNone = false
theorem run_callFn {P : Program} {f : FuncId} (h : FnOk P f) (args : Array Value) (w : World) : (callFunc f args).run P w = .ok (.enter f args) w := by
  obtain ⟨fn, h1, h2, h3⟩ := h
  have h2' : ¬ fn.name = "runtime.NumGoroutine" := by simpa using h2
  have h3' : fn.body ≠ none := by intro e; rw [e] at h3; cases h3
  simp [callFunc, h1, h2', h3']

/-- A contract of a function that only reads: at these arguments it returns 'res', and nothing that was there has changed. -/
structure FnC (P : Program) (f : FuncId) (args : List SV) (res : SV) : Prop where
  ok : FnOk P f
  run : ∀ (F : Nat → Prop) (w : World) (vs : List Value), args.length = vs.length → (∀ (i : Nat) (s : SV) (v : Value), args[i]? = some s → vs[i]? = some v → Den F w Env.none s v) → (∀ g, F g → g < w.heap.size) →
    Calls P f vs.toArray w fun e w' => ∃ r F', e = .returned r ∧ Fr w (fun _ => False) w' ∧ (∀ g, F g → F' g) ∧ (∀ g, F' g → F g ∨ w.heap.size ≤ g) ∧ (∀ g, F' g → g < w'.heap.size) ∧ Den F' w' Env.none res r

section
variable {P : Program} {w0 : World} {M : Mod} {N : Nat} {F0 : Nat → Prop} {ops : Array Oper}
variable {F : Nat → Prop} {ρ : Env} {st : St} {a : Act} {w : World}
variable {d : Nat} {x y z : Operand} {ty ty' : TypeId} {pos : String} {af : Array Edge}

theorem getElem?_splice (l : List Value) (o : Nat) (xs : List Value) (h : o + xs.length ≤ l.length) (j : Nat) :
    (l.take o ++ xs ++ l.drop (o + xs.length))[j]? = if j < o then l[j]? else if j < o + xs.length then xs[j - o]? else l[j]? := by
  rw [List.append_assoc, List.getElem?_append, List.getElem?_append, List.length_take, Nat.min_eq_left (by omega)]
  split
  · rw [List.getElem?_take, if_pos (by assumption)]
  · split
    · rw [if_pos (by omega)]
    · rw [if_neg (by omega), List.getElem?_drop]; congr 1; omega

/-- Some cells of a variable are written. -/
theorem Rel'.storeCells (h : Rel' w0 M N F ρ st a w) {b o k g : Nat} {tyb : TypeId} {cs : List SV} {xs : List Value} (hv : st.v b = some (tyb, k)) (hρ : ρ b = some (.pointer (some ⟨g, 0, none⟩)))
    (hl : cs.length = xs.length) (hk : o + cs.length ≤ k) (hd : ∀ (j : Nat) (s : SV) (x : Value), cs[j]? = some s → xs[j]? = some x → Den F w ρ s x ∧ x.oneCell' = true) :
    ∃ w', (Go.storeCells ⟨g, o, none⟩ xs).run P w = .ok () w' ∧ Rel' w0 M N F ρ (st.app (cellWr b o cs)) a w' := by
  obtain ⟨g', arr, a1, a2, a3, a4⟩ := h.mem.var b tyb k hv
  rw [hρ] at a1; injection a1 with a1; injection a1 with a1; injection a1 with a1; injection a1 with a1; subst a1
  have hfit : o + 0 + xs.length ≤ arr.size := by omega
  have h1 : ∀ v ∈ xs, v.oneCell' = true := by
    intro v hv'
    obtain ⟨j, hj⟩ := List.getElem?_of_mem hv'
    have hjl : j < cs.length := by rw [hl]; exact (List.getElem?_eq_some_iff.1 hj).1
    exact (hd j _ v (List.getElem?_eq_getElem hjl) hj).2
  have hst := run_storeCells_at P g o tyb xs 0 arr w a2 hfit h1
  simp only [Nat.add_zero] at hst hfit
  refine ⟨_, hst, ?_⟩
  obtain ⟨e1, e2, e3, e4, e5, e6, e7⟩ := app_cellWr b cs o st
  refine h.setVar hv hρ ?_ e1 e2 e3 e4 e5 ?_
  · simp only [List.size_toArray, List.length_append, List.length_take, List.length_drop, Array.length_toList]; omega
  · intro j x hx
    have hx' : (arr.toList.take o ++ xs ++ arr.toList.drop (o + xs.length))[j]? = some x := by simpa using hx
    rw [getElem?_splice _ _ _ (by simpa using hfit)] at hx'
    by_cases c1 : j < o
    · rw [if_pos c1] at hx'
      rw [e6 j (.inl c1)]
      exact a4 j x (by simpa using hx')
    · rw [if_neg c1] at hx'
      by_cases c2 : j < o + xs.length
      · rw [if_pos c2] at hx'
        have hs : cs[j - o]? = some (cs[j - o]'(by omega)) := List.getElem?_eq_getElem (by omega)
        have h7 := e7 (j - o) _ hs
        rw [show o + (j - o) = j by omega] at h7
        rw [h7]
        exact hd (j - o) _ x hs hx'
      · rw [if_neg c2] at hx'
        rw [e6 j (.inr (by omega))]
        exact a4 j x (by simpa using hx')

theorem run_storeVar {t : TypeId} {k : Nat} (hT : sizeT P t k) {ad : Addr} {v : Value} (hv : v.cells.size = k) :
    (storeVar t ad v).run P w = (Go.storeCells ad v.cells.toList).run P w := by
  simp [storeVar, run_sizeOf hT, hv]

theorem cells_one {v : Value} (h : v.oneCell' = true) : v.cells = #[v] := by cases v <;> first | rfl | (simp [Value.oneCell'] at h)

theorem rd_storeV {b o k : Nat} {tyb : TypeId} {s : SV} (hT : sizeT P ty' 1) :
    RTD P w0 M N F0 ops ⟨none, .store ty' x y, ty, pos, af, none⟩ (fun st => Ev st x (.ptr b o) ∧ Ev st y s ∧ st.v b = some (tyb, k) ∧ (o < k ∧ oneS s = true)) (opKeys x ++ (opKeys y ++ ([.v b] ++ []))) [.c b o s] := by
  refine ⟨RT.stepW rfl ?_, (Dep.ev x _).and ((Dep.ev y _).and ((Dep.v b _).and (Dep.pure _)))⟩
  rintro st ⟨h1, h2, h3, h4, h5⟩ F ρ a w h
  have h6 := h.eval h1
  have h7 := h.eval h2
  have h8 := oneS_spec h7 h.mem.one h5
  generalize hx : a.eval x = v at h6
  cases h6 with
  | ptr hρ =>
    rename_i g
    obtain ⟨w', hr, hk⟩ := h.storeCells (P := P) (cs := [s]) (xs := [a.eval y]) h3 hρ rfl (o := o) (by simp; omega) (by
      intro j s' x' hs hx'
      cases j with
      | zero => simp at hs hx'; subst hs hx'; exact ⟨h7, h8⟩
      | succ j => simp at hs)
    refine ⟨undef, ρ, w', .inr ⟨?_, rfl⟩, hk⟩
    have hc := cells_one h8
    have hrs := run_storeVar (w := w) hT (ad := ⟨g, o, none⟩) (v := a.eval y) (by rw [hc]; rfl)
    rw [hc] at hrs
    simp only [execOp, hx, Instr.storeAt, Instr.sureAddr, Sem.run_bind, Sem.run_pure, Result.andThen_ok, hrs, hr]

theorem rd_storeVS {b o k m : Nat} {tyb : TypeId} {cs : List SV} (hT : sizeT P ty' m) :
    RTD P w0 M N F0 ops ⟨none, .store ty' x y, ty, pos, af, none⟩ (fun st => Ev st x (.ptr b o) ∧ Ev st y (.agg cs) ∧ st.v b = some (tyb, k) ∧ (o + m ≤ k ∧ cs.length = m ∧ allOne cs = true)) (opKeys x ++ (opKeys y ++ ([.v b] ++ []))) (cellWr b o cs) := by
  refine ⟨RT.stepW rfl ?_, (Dep.ev x _).and ((Dep.ev y _).and ((Dep.v b _).and (Dep.pure _)))⟩
  rintro st ⟨h1, h2, h3, h4, h4', h5⟩ F ρ a w h
  have h6 := h.eval h1
  have h7 := h.eval h2
  generalize hx : a.eval x = v at h6
  generalize hy : a.eval y = u at h7
  cases h7 with
  | agg hl hi =>
  rename_i vs
  cases h6 with
  | ptr hρ =>
    rename_i g
    obtain ⟨w', hr, hk⟩ := h.storeCells (P := P) (cs := cs) (xs := vs) h3 hρ hl (o := o) (by omega) (fun j s x hs hx => ⟨hi j s x hs hx, oneS_spec (hi j s x hs hx) h.mem.one (by
      unfold allOne at h5; simp only [List.all_eq_true] at h5; exact h5 s (List.mem_of_getElem? hs))⟩)
    refine ⟨undef, ρ, w', .inr ⟨?_, rfl⟩, hk⟩
    have hrs := run_storeVar (w := w) hT (ad := ⟨g, o, none⟩) (v := .agg vs.toArray) (by simp [Value.cells]; omega)
    simp only [Value.cells] at hrs
    simp only [execOp, hx, hy, Instr.storeAt, Instr.sureAddr, Sem.run_bind, Sem.run_pure, Result.andThen_ok, hrs, hr]

/-! ### New variables -/
theorem rd_boxV {b : Nat} {s : SV} (hd : d < N) :
    RTD P w0 M N F0 ops ⟨some d, .box ty' x, ty, pos, af, none⟩ (fun st => Ev st x s ∧ st.d b = false ∧ oneS s = true) (opKeys x ++ ([.d b] ++ [])) (.d b :: .v b (some (ty', 1)) :: .r d (.ptr b 0) :: cellWr b 0 [s]) := by
  refine ⟨RT.stepW rfl ?_, (Dep.ev x _).and ((Dep.d b _).and (Dep.pure _))⟩
  rintro st ⟨h1, h2, h3⟩ F ρ a w h
  have h6 := h.eval h1
  have h8 := oneS_spec h6 h.mem.one h3
  have hn := h.newVar (b := b) (d := d) (ty := ty') (cs := [s]) (arr := #[a.eval x]) h2 hd rfl (by
    intro j s' x' hs hx'
    cases j with
    | zero => simp at hs hx'; subst hs hx'; exact ⟨h6, h8⟩
    | succ j => simp at hs)
  refine ⟨_, _, _, .inl ?_, hn⟩
  simp only [execOp, Instr.box, newVar, newRow, cells_one h8, Sem.run_bind, Sem.run_pure, Result.andThen_ok, run_newObj]
  rfl
theorem rd_boxS {b : Nat} {cs : List SV} (hd : d < N) :
    RTD P w0 M N F0 ops ⟨some d, .box ty' x, ty, pos, af, none⟩ (fun st => Ev st x (.agg cs) ∧ st.d b = false ∧ allOne cs = true) (opKeys x ++ ([.d b] ++ [])) (.d b :: .v b (some (ty', cs.length)) :: .r d (.ptr b 0) :: cellWr b 0 cs) := by
  refine ⟨RT.stepW rfl ?_, (Dep.ev x _).and ((Dep.d b _).and (Dep.pure _))⟩
  rintro st ⟨h1, h2, h3⟩ F ρ a w h
  have h6 := h.eval h1
  generalize hx : a.eval x = u at h6
  cases h6 with
  | agg hl hi =>
  rename_i vs
  have hn := h.newVar (b := b) (d := d) (ty := ty') (cs := cs) (arr := vs.toArray) h2 hd (by simpa using hl) (by
    intro j s' x' hs hx'
    have hx'' : vs[j]? = some x' := by simpa using hx'
    exact ⟨hi j s' x' hs hx'', oneS_spec (hi j s' x' hs hx'') h.mem.one (by unfold allOne at h3; simp only [List.all_eq_true] at h3; exact h3 s' (List.mem_of_getElem? hs))⟩)
  refine ⟨_, _, _, .inl ?_, hn⟩
  simp only [execOp, hx, Instr.box, newVar, newRow, Value.cells, Sem.run_bind, Sem.run_pure, Result.andThen_ok, run_newObj]
  rfl

/-- Zero cells. -/
def ZeroS : List SV → List Value → Prop
  | [], [] => True
  | s :: r, v :: t => (s = .val v ∧ v.oneCell' = true ∨ ∃ k g, s = .sl k 0 g ∧ v = .slice none 0 0) ∧ ZeroS r t
  | _, _ => False
theorem ZeroS.spec : ∀ {cs : List SV} {vs : List Value}, ZeroS cs vs → cs.length = vs.length ∧ ∀ (j : Nat) (s : SV) (x : Value), cs[j]? = some s → vs[j]? = some x → Den F w ρ s x ∧ x.oneCell' = true
  | [], [], _ => ⟨rfl, fun j s x h => by simp at h⟩
  | s :: r, v :: t, ⟨h0, h1⟩ => by
    obtain ⟨e1, e2⟩ := h1.spec
    refine ⟨by simp [e1], fun j s' x' hs hx => ?_⟩
    cases j with
    | zero =>
      simp at hs hx; subst hs hx
      rcases h0 with ⟨rfl, h⟩ | ⟨k, g, rfl, rfl⟩
      · exact ⟨.val _, h⟩
      · exact ⟨.nilsl, rfl⟩
    | succ j => exact e2 j s' x' (by simpa using hs) (by simpa using hx)
  | [], _ :: _, h => h.elim
  | _ :: _, [], h => h.elim
theorem rd_alloc {b : Nat} {cs : List SV} {zv : Value} (hd : d < N) (hz : zeroT P ty' zv) (hcs : ZeroS cs zv.cells.toList) :
    RTD P w0 M N F0 ops ⟨some d, .alloc ty', ty, pos, af, none⟩ (fun st => st.d b = false) [.d b] (.d b :: .v b (some (ty', cs.length)) :: .r d (.ptr b 0) :: cellWr b 0 cs) := by
  refine ⟨RT.stepW rfl ?_, Dep.d b _⟩
  rintro st h2 F ρ a w h
  obtain ⟨e1, e2⟩ := hcs.spec (F := F) (w := w) (ρ := ρ)
  have hn := h.newVar (b := b) (d := d) (ty := ty') (cs := cs) (arr := zv.cells) h2 hd (by simpa using e1) (fun j s x hs hx => e2 j s x hs (by simpa using hx))
  refine ⟨_, _, _, .inl ?_, hn⟩
  simp only [execOp, Instr.alloc, run_zeroValue hz, newVar, newRow, Sem.run_bind, Sem.run_pure, Result.andThen_ok, run_newObj]
  rfl

/-! ### Guards -/
def memN : List Nat → Nat → Bool
  | [], _ => false
  | t :: l, x => Nat.beq x t || memN l x
def peel : SV → SV
  | .when _ s => s
  | s => s
def St.peel (st : St) (ts : List Nat) : St := { st with r := fun t => bif memN ts t then Sp.peel (st.r t) else st.r t }
def whenOk (c : Bool) : SV → Prop
  | .when c' _ => c = true → c' = true
  | _ => True
def WhenAll (st : St) (c : Bool) : List Nat → Prop
  | [] => True
  | t :: l => whenOk c (st.r t) ∧ WhenAll st c l
def slotKeys : List Nat → List Key
  | [] => []
  | t :: l => .r t :: slotKeys l
theorem memN_iff {l : List Nat} {x : Nat} : memN l x = true ↔ x ∈ l := by
  induction l with
  | nil => simp [memN]
  | cons a l ih =>
    simp only [memN, Bool.or_eq_true, ih, List.mem_cons]
    constructor
    · rintro (h | h)
      · exact .inl (Nat.eq_of_beq_eq_true h)
      · exact .inr h
    · rintro (rfl | h)
      · exact .inl (Nat.beq_refl _)
      · exact .inr h
theorem WhenAll.at_ {c : Bool} : ∀ {l : List Nat}, WhenAll st c l → ∀ t, memN l t = true → whenOk c (st.r t)
  | [], _, t, h => by cases h
  | a :: l, ⟨h0, h1⟩, t, h => by
    rcases List.mem_cons.1 (memN_iff.1 h) with rfl | h
    · exact h0
    · exact h1.at_ t (memN_iff.2 h)
theorem Dep.whenAll (c : Bool) : ∀ (l : List Nat), Dep (fun st => WhenAll st c l) (slotKeys l)
  | [] => fun _ _ _ h => h
  | t :: l => fun st st' h ⟨h0, h1⟩ => ⟨by have := h (.r t) (by simp [slotKeys]); simp only [agree] at this; show whenOk c (st'.r t); rw [← this]; exact h0, Dep.whenAll c l st st' (fun κ hκ => h κ (by simp [slotKeys, hκ])) h1⟩
theorem Dep.peel {pre : St → Prop} {rd : List Key} (h : Dep pre rd) (ts : List Nat) (Φ : Prop) : Dep (fun st => Φ → pre (st.peel ts)) rd := by
  intro st st' hag hp hΦ
  refine h (st.peel ts) (st'.peel ts) (fun κ hκ => ?_) (hp hΦ)
  have := hag κ hκ
  cases κ <;> simp only [agree, St.peel] at this ⊢ <;> first | exact this | rw [this]

/-- The value that a guard's slot holds. -/
theorem wanted_slot {o : Oper} {j gs : Nat} {want gb : Bool} (hg : o.guard = some (j, want)) (hj : (ops[j]?).bind (·.dst) = some gs) (hs : gs < a.tmps.size) (hv : a.tmps.getD gs undef = .bool gb) :
    Region.wanted o (yielded ops a.tmps) = (gb == want) := by
  have h1 : a.tmps[gs]? = some (.bool gb) := by
    rw [Array.getElem?_eq_getElem hs]; congr 1
    simpa [Array.getD_eq_getD_getElem?, Array.getElem?_eq_getElem hs] using hv
  simp [Region.wanted, hg, yielded, hj, h1]

theorem Rel'.peel (h : Rel' w0 M N F ρ st a w) {ts : List Nat} (hw : WhenAll st true ts) : Rel' w0 M N F ρ (st.peel ts) a w := by
  refine ⟨h.fr, h.mem.congr rfl rfl rfl rfl, h.lo, fun t => ?_, h.sz, h.df, h.pin⟩
  show Den F w ρ (bif memN ts t then Sp.peel (st.r t) else st.r t) _
  cases hm : memN ts t with
  | false => exact h.regs t
  | true =>
    have h1 := h.regs t
    have h2 := hw.at_ t hm
    simp only [cond_true]
    revert h1 h2
    cases st.r t <;> intro h1 h2 <;> first | exact h1 | (simp only [Sp.peel]; cases h1 with | when hh _ => exact hh (h2 rfl))

theorem Rel'.unpeel {ts : List Nat} {s : SV} {c : Bool} (hc : c = true) (hw : WhenAll st true ts) (h : Rel' w0 M N F ρ ((st.peel ts).put (.r d s)) a w) : Rel' w0 M N F ρ (st.put (.r d (.when c s))) a w := by
  refine ⟨h.fr, h.mem.congr rfl rfl rfl rfl, h.lo, fun t => ?_, h.sz, h.df, h.pin⟩
  have h1 := h.regs t
  show Den F w ρ (bif Nat.beq t d then SV.when c s else st.r t) _
  have h1' : Den F w ρ (bif Nat.beq t d then s else bif memN ts t then Sp.peel (st.r t) else st.r t) (a.tmps.getD t undef) := h1
  cases hb : Nat.beq t d with
  | true => rw [hb] at h1'; exact .when (fun _ => h1') (fun e => by rw [hc] at e; cases e)
  | false =>
    rw [hb] at h1'
    simp only [cond_false] at h1' ⊢
    cases hm : memN ts t with
    | false => rw [hm] at h1'; exact h1'
    | true =>
      rw [hm] at h1'
      simp only [cond_true] at h1'
      have h2 := hw.at_ t hm
      revert h1' h2
      cases st.r t <;> intro h1' h2 <;> first | exact h1' | exact .when (fun _ => h1') (fun e => by rw [h2 rfl] at e; cases e)

/-- A guarded operation that makes a value: its slot holds the value where the guard says so. -/
theorem rd_guard {o : Oper} {j gs : Nat} {want gb : Bool} {pre : St → Prop} {rd : List Key} {s : SV} {ts : List Nat}
    (h : RTD P w0 M N F0 ops { o with guard := none } pre rd [.r d s]) (hdst : o.dst = some d) (hg : o.guard = some (j, want)) (hj : (ops[j]?).bind (·.dst) = some gs) (hd : d < N) (hgs : gs < N) :
    RTD P w0 M N F0 ops o (fun st => st.r gs = .b gb ∧ WhenAll st (gb == want) ts ∧ ((gb == want) = true → pre (st.peel ts))) ([.r gs] ++ (slotKeys ts ++ rd)) [.r d (.when (gb == want) s)] := by
  refine ⟨?_, (?_ : Dep (fun st => st.r gs = .b gb) [.r gs]).and ((Dep.whenAll _ ts).and (h.dep.peel ts _))⟩
  · rintro st ⟨h1, h2, h3⟩ a w ⟨F, ρ, hr, hF⟩
    have hv : a.tmps.getD gs undef = .bool gb := by have := hr.regs gs; rw [h1] at this; exact Den.val_iff.1 this
    rw [wanted_slot hg hj (by rw [hr.sz]; exact hgs) hv]
    cases hc : (gb == want) with
    | true =>
      rw [hc] at h2 h3
      rw [if_pos rfl]
      have h4 := h.rt (st.peel ts) (h3 rfl) a w ⟨F, ρ, hr.peel h2, hF⟩
      rw [if_pos (wanted_none rfl)] at h4
      exact Oper.wp_mono (fun a' w' ⟨F', ρ', h5, h6⟩ => ⟨F', ρ', Rel'.unpeel (ts := ts) rfl h2 h5, h6⟩) h4
    | false =>
      rw [if_neg (by simp), hdst]
      exact ⟨F, ρ, hr.setR hd (.when (fun h => by cases h) fun _ => rfl), hF⟩
  · intro st st' hag hp
    have := hag (.r gs) (by simp); simp only [agree] at this; show st'.r gs = _; rw [← this]; exact hp
theorem rd_guardW {o : Oper} {j gs : Nat} {want gb c0 : Bool} {pre : St → Prop} {rd : List Key} {s : SV} {ts : List Nat}
    (h : RTD P w0 M N F0 ops { o with guard := none } pre rd [.r d s]) (hdst : o.dst = some d) (hg : o.guard = some (j, want)) (hj : (ops[j]?).bind (·.dst) = some gs) (hd : d < N) (hgs : gs < N) :
    RTD P w0 M N F0 ops o (fun st => st.r gs = .when c0 (.b gb) ∧ WhenAll st (c0 && (gb == want)) ts ∧ ((c0 && (gb == want)) = true → pre (st.peel ts))) ([.r gs] ++ (slotKeys ts ++ rd)) [.r d (.when (c0 && (gb == want)) s)] := by
  refine ⟨?_, (?_ : Dep (fun st => st.r gs = .when c0 (.b gb)) [.r gs]).and ((Dep.whenAll _ ts).and (h.dep.peel ts _))⟩
  · rintro st ⟨h1, h2, h3⟩ a w ⟨F, ρ, hr, hF⟩
    have hv0 := hr.regs gs
    rw [h1] at hv0
    cases hc : (c0 && (gb == want)) with
    | true =>
      rw [hc] at h2 h3
      have hc0 : c0 = true := by revert hc; cases c0 <;> simp
      have hc1 : (gb == want) = true := by revert hc; cases c0 <;> simp
      cases hv0 with
      | when hh _ =>
        have hv := Den.val_iff.1 (hh hc0)
        rw [wanted_slot hg hj (by rw [hr.sz]; exact hgs) hv, if_pos hc1]
        have h4 := h.rt (st.peel ts) (h3 rfl) a w ⟨F, ρ, hr.peel h2, hF⟩
        rw [if_pos (wanted_none rfl)] at h4
        exact Oper.wp_mono (fun a' w' ⟨F', ρ', h5, h6⟩ => ⟨F', ρ', Rel'.unpeel (ts := ts) rfl h2 h5, h6⟩) h4
    | false =>
      have hnw : Region.wanted o (yielded ops a.tmps) = false := by
        cases hv0 with
        | when hh hu =>
          cases hc0 : c0 with
          | true =>
            have hv := Den.val_iff.1 (hh hc0)
            rw [wanted_slot hg hj (by rw [hr.sz]; exact hgs) hv]
            rw [hc0] at hc; simpa using hc
          | false =>
            have h5 := hu hc0
            have h6 : a.tmps[gs]? = some undef := by
              rw [Array.getElem?_eq_getElem (by rw [hr.sz]; exact hgs)]; congr 1
              simpa [Array.getD_eq_getD_getElem?, Array.getElem?_eq_getElem (show gs < a.tmps.size by rw [hr.sz]; exact hgs)] using h5
            simp [Region.wanted, hg, yielded, hj, h6, undef]
      rw [if_neg (by simp [hnw]), hdst]
      exact ⟨F, ρ, hr.setR hd (.when (fun h => by cases h) fun _ => rfl), hF⟩
  · intro st st' hag hp
    have := hag (.r gs) (by simp); simp only [agree] at this; show st'.r gs = _; rw [← this]; exact hp

end
end Go.Sp
