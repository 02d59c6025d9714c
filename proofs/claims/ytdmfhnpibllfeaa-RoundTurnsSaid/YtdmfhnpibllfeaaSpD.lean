/- The engine, part D: one lemma for each operation. No condition. -/
import Derived.Test.YtdmfhnpibllfeaaSpC
namespace Go.Sp
open Go Go.RowKit

structure RTD (P : Program) (w0 : World) (M : Mod) (N : Nat) (F0 : Nat → Prop) (ops : Array Oper) (o : Oper) (pre : St → Prop) (rd : List Key) (wr : List Wr) : Prop where
  rt : RT P w0 M N F0 ops o pre wr
  dep : Dep pre rd

theorem Dep.ev (x : Operand) (s : SV) : Dep (fun st => Ev st x s) (opKeys x) := by
  intro st st' h hp
  cases x with
  | tmp t => have := h (.r t) (by simp [opKeys]); simp only [agree] at this; show st'.r t = s; rw [← this]; exact hp
  | const v => exact hp
  | func f => exact hp
  | global g => exact hp
theorem Dep.and {p q : St → Prop} {r r' : List Key} (hp : Dep p r) (hq : Dep q r') : Dep (fun st => p st ∧ q st) (r ++ r') :=
  fun st st' h ⟨a, b⟩ => ⟨hp st st' (fun κ hκ => h κ (List.mem_append.2 (.inl hκ))) a, hq st st' (fun κ hκ => h κ (List.mem_append.2 (.inr hκ))) b⟩
theorem Dep.pure (p : Prop) : Dep (fun _ => p) [] := fun _ _ _ h => h
theorem Dep.v (b : Nat) (x : Option (TypeId × Nat)) : Dep (fun st => st.v b = x) [.v b] := fun st st' h hp => by
  have := h (.v b) (by simp); simp only [agree] at this; show st'.v b = x; rw [← this]; exact hp
theorem Dep.a (b : Nat) (x : Option Arr) : Dep (fun st => st.a b = x) [.a b] := fun st st' h hp => by
  have := h (.a b) (by simp); simp only [agree] at this; show st'.a b = x; rw [← this]; exact hp
theorem Dep.d (b : Nat) (x : Bool) : Dep (fun st => st.d b = x) [.d b] := fun st st' h hp => by
  have := h (.d b) (by simp); simp only [agree] at this; show st'.d b = x; rw [← this]; exact hp
theorem Dep.c (b o : Nat) (s : SV) : Dep (fun st => st.c b o = s) [.c b o] := fun st st' h hp => by
  have := h (.c b o) (by simp); simp only [agree] at this; show st'.c b o = s; rw [← this]; exact hp
theorem Dep.cells (b : Nat) : ∀ (o : Nat) (cs : List SV), Dep (fun st => CellsAre st b o cs) (cellKeys b o cs)
  | _, [] => fun _ _ _ h => h
  | o, s :: r => fun st st' h ⟨h0, h1⟩ => ⟨Dep.c b o s st st' (fun κ hκ => h κ (by simp at hκ; simp [cellKeys, hκ])) h0, Dep.cells b (o + 1) r st st' (fun κ hκ => h κ (by simp [cellKeys, hκ])) h1⟩

/-- A value that fits in one cell. -/
def oneS : SV → Bool
  | .val v => v.oneCell'
  | .ptr .. | .ael .. | .sl .. | .sel .. | .own _ => true
  | _ => false
theorem oneS_spec {F : Nat → Prop} {w : World} {ρ : Env} {s : SV} {v : Value} (h : Den F w ρ s v) (hone : ∀ b v, ρ b = some v → v.oneCell' = true) (ho : oneS s = true) : v.oneCell' = true := by
  cases h <;> first | exact ho | rfl | (simp [oneS] at ho; done) | (rename_i hb; exact hone _ _ hb)

section
variable {P : Program} {w0 : World} {M : Mod} {N : Nat} {F0 : Nat → Prop} {ops : Array Oper}
variable {F : Nat → Prop} {ρ : Env} {st : St} {a : Act} {w : World}
variable {d : Nat} {x y z : Operand} {ty ty' : TypeId} {pos : String} {af : Array Edge}

theorem Den.weaken {s : SV} {v : Value} (h : Den F w Env.none s v) (ρ : Env) : Den F w ρ s v := h.mono (fun _ h => h) (fun _ _ => rfl) ρ (fun _ _ h => by cases h)

theorem rd_move {s : SV} (hd : d < N) : RTD P w0 M N F0 ops ⟨some d, .move x, ty, pos, af, none⟩ (fun st => Ev st x s) (opKeys x) [.r d s] := ⟨rt_move hd, Dep.ev x s⟩
theorem rd_assign {s : SV} (hd : d < N) : RTD P w0 M N F0 ops ⟨some d, .assign x, ty, pos, af, none⟩ (fun st => Ev st x s) (opKeys x) [.r d s] := ⟨rt_assign hd, Dep.ev x s⟩

theorem rd_extract {i : Nat} {ss : List SV} {s : SV} (hd : d < N) :
    RTD P w0 M N F0 ops ⟨some d, .extract x i, ty, pos, af, none⟩ (fun st => Ev st x (.tup ss) ∧ ss[i]? = some s) (opKeys x ++ []) [.r d s] := by
  refine ⟨RT.value rfl rfl hd ?_, (Dep.ev x _).and (Dep.pure _)⟩
  rintro st ⟨h1, h2⟩ F ρ a w h
  have h3 := h.eval h1
  generalize hx : a.eval x = v at h3
  cases h3 with
  | tup hl hi =>
    rename_i vs
    have hlt : i < vs.length := by rw [← hl]; exact (List.getElem?_eq_some_iff.1 h2).1
    refine ⟨vs[i], ?_, hi i s _ h2 (List.getElem?_eq_getElem hlt)⟩
    simp [execOp, Instr.extract, hx, hlt]

theorem cell_var (h : MemOk F w ρ st) {b o k : Nat} {tyb : TypeId} {s : SV} (hv : st.v b = some (tyb, k)) (ho : o < k) (hs : st.c b o = s) {g : Nat} (hρ : ρ b = some (.pointer (some ⟨g, 0, none⟩))) :
    ∃ v, w.cell? ⟨g, o, none⟩ = some v ∧ Den F w ρ s v ∧ v.oneCell' = true := by
  obtain ⟨g', arr, h1, h2, h3, h4⟩ := h.var b tyb k hv
  rw [hρ] at h1; injection h1 with h1; injection h1 with h1; injection h1 with h1; injection h1 with h1; subst h1
  have ho' : o < arr.size := by omega
  have h5 := h4 o arr[o] (Array.getElem?_eq_getElem ho')
  rw [hs] at h5
  exact ⟨arr[o], by rw [cell_of_row w g o arr tyb (0, 0) h2]; exact Array.getElem?_eq_getElem ho', h5⟩

theorem rd_loadV {b o k : Nat} {tyb : TypeId} {s : SV} (hd : d < N) (hT : scalarT P ty') :
    RTD P w0 M N F0 ops ⟨some d, .load ty' x, ty, pos, af, none⟩ (fun st => Ev st x (.ptr b o) ∧ st.v b = some (tyb, k) ∧ o < k ∧ st.c b o = s) (opKeys x ++ ([.v b] ++ ([] ++ [.c b o]))) [.r d s] := by
  refine ⟨RT.value rfl rfl hd ?_, (Dep.ev x _).and ((Dep.v b _).and ((Dep.pure _).and (Dep.c b o s)))⟩
  rintro st ⟨h1, h2, h3, h4⟩ F ρ a w h
  have h5 := h.eval h1
  generalize hx : a.eval x = v at h5
  cases h5 with
  | ptr hρ =>
    obtain ⟨v, hc, hv, _⟩ := cell_var h.mem h2 h3 h4 hρ
    exact ⟨v, by simp [execOp, hx, Instr.loadAt, Instr.sureAddr, loadVar, run_isAgg_scalar hT, run_load, hc], hv⟩

theorem run_loadAgg {t : TypeId} {k : Nat} (hT : aggT P t k) {ad : Addr} {cs : List Value} (hl : cs.length = k) (hc : ∀ j v, cs[j]? = some v → w.cell? (ad.add j) = some v) :
    (loadVar t ad).run P w = .ok (.agg cs.toArray) w := by
  subst hl
  simp [loadVar, run_isAgg_agg hT, run_sizeOf hT.2, run_loadCells_list w ad cs hc]

theorem rd_loadVS {b o k m : Nat} {tyb : TypeId} {cs : List SV} (hd : d < N) (hT : aggT P ty' m) :
    RTD P w0 M N F0 ops ⟨some d, .load ty' x, ty, pos, af, none⟩ (fun st => Ev st x (.ptr b o) ∧ st.v b = some (tyb, k) ∧ (o + m ≤ k ∧ cs.length = m) ∧ CellsAre st b o cs) (opKeys x ++ ([.v b] ++ ([] ++ cellKeys b o cs))) [.r d (.agg cs)] := by
  refine ⟨RT.value rfl rfl hd ?_, (Dep.ev x _).and ((Dep.v b _).and ((Dep.pure _).and (Dep.cells b o cs)))⟩
  rintro st ⟨h1, h2, ⟨h3, h4⟩, h5⟩ F ρ a w h
  have h6 := h.eval h1
  generalize hx : a.eval x = v at h6
  cases h6 with
  | ptr hρ =>
    rename_i g
    have hall : ∀ j, j < m → ∃ v, w.cell? ⟨g, o + j, none⟩ = some v ∧ ∀ s, cs[j]? = some s → Den F w ρ s v := by
      intro j hj
      obtain ⟨v, hc, hv, _⟩ := cell_var h.mem h2 (o := o + j) (by omega) (h5.at_ j cs[j] (List.getElem?_eq_getElem (by omega))) hρ
      exact ⟨v, hc, fun s hs => by rw [List.getElem?_eq_getElem (by omega)] at hs; injection hs with hs; subst hs; exact hv⟩
    let vs : List Value := (List.range m).map fun j => (w.cell? ⟨g, o + j, none⟩).getD undef
    have hvl : vs.length = m := by simp [vs]
    have hvs : ∀ j v, vs[j]? = some v → j < m ∧ w.cell? ⟨g, o + j, none⟩ = some v := by
      intro j v hj
      have hjm : j < m := by rw [← hvl]; exact (List.getElem?_eq_some_iff.1 hj).1
      obtain ⟨v', hc, _⟩ := hall j hjm
      refine ⟨hjm, ?_⟩
      simp [vs, hjm] at hj
      rw [hc] at hj ⊢; simpa using hj
    refine ⟨.agg vs.toArray, ?_, .agg (by rw [hvl, h4]) fun j s v hs hv => ?_⟩
    · have hr := run_loadAgg (w := w) hT (ad := ⟨g, o, none⟩) (cs := vs) hvl (fun j v hj => by rw [Addr.add_lit]; exact (hvs j v hj).2)
      simp [execOp, hx, Instr.loadAt, Instr.sureAddr, hr]
    · obtain ⟨hjm, hc⟩ := hvs j v hv
      obtain ⟨v', hc', hv'⟩ := hall j hjm
      rw [hc] at hc'; injection hc' with hc'; subst hc'
      exact hv' s hs

/-- Cells of an element. -/
def ElAre (g : Nat → Nat → SV) (i : Nat) : Nat → List SV → Prop
  | _, [] => True
  | o, s :: r => g i o = s ∧ ElAre g i (o + 1) r
theorem ElAre.at_ {g : Nat → Nat → SV} {i : Nat} : ∀ {cs : List SV} {o : Nat}, ElAre g i o cs → ∀ j s, cs[j]? = some s → g i (o + j) = s
  | [], _, _, j, s, h => by simp at h
  | c :: r, o, ⟨h0, h1⟩, j, s, h => by
    cases j with
    | zero => simp at h; subst h; exact h0
    | succ j => have := h1.at_ j s (by simpa using h); rw [← this]; congr 1; omega

theorem add_add (a : Addr) (m n : Nat) : (a.add m).add n = a.add (m + n) := by
  unfold Addr.add
  by_cases h1 : m = 0 <;> by_cases h2 : n = 0 <;> simp [h1, h2] <;> omega

theorem sel_cell {k n i : Nat} {g : Nat → Nat → SV} {ad : Addr} {cap : Nat} (h : Den F w Env.none (.sl k n g) (.slice (some ad) n cap)) (hi : i < n) {j : Nat} (hj : j < k) :
    ∃ v, w.cell? (ad.add (i * k + j)) = some v ∧ Den F w Env.none (g i j) v ∧ v.oneCell' = true := by
  cases h with
  | sl cell _ _ _ hc h1 hd => exact ⟨_, hc i j hi hj, hd i j hi hj, h1 i j hi hj⟩

theorem rd_loadE {k n i o : Nat} {g : Nat → Nat → SV} {s : SV} (hd : d < N) (hT : scalarT P ty') :
    RTD P w0 M N F0 ops ⟨some d, .load ty' x, ty, pos, af, none⟩ (fun st => Ev st x (.sel k n g i o) ∧ o < k ∧ g i o = s) (opKeys x ++ ([] ++ [])) [.r d s] := by
  refine ⟨RT.value rfl rfl hd ?_, (Dep.ev x _).and ((Dep.pure _).and (Dep.pure _))⟩
  rintro st ⟨h1, h3, h4⟩ F ρ a w h
  have h5 := h.eval h1
  generalize hx : a.eval x = v at h5
  cases h5 with
  | sel hs hi =>
    obtain ⟨v, hc, hv, _⟩ := sel_cell hs hi h3
    subst h4
    exact ⟨v, by simp [execOp, hx, Instr.loadAt, Instr.sureAddr, loadVar, run_isAgg_scalar hT, run_load, hc], hv.weaken ρ⟩

theorem rd_loadES {k n i o m : Nat} {g : Nat → Nat → SV} {cs : List SV} (hd : d < N) (hT : aggT P ty' m) :
    RTD P w0 M N F0 ops ⟨some d, .load ty' x, ty, pos, af, none⟩ (fun st => Ev st x (.sel k n g i o) ∧ (o + m ≤ k ∧ cs.length = m) ∧ ElAre g i o cs) (opKeys x ++ ([] ++ [])) [.r d (.agg cs)] := by
  refine ⟨RT.value rfl rfl hd ?_, (Dep.ev x _).and ((Dep.pure _).and (Dep.pure _))⟩
  rintro st ⟨h1, ⟨h3, h4⟩, h5⟩ F ρ a w h
  have h6 := h.eval h1
  generalize hx : a.eval x = v at h6
  cases h6 with
  | sel hs hi =>
    rename_i ad cap
    let vs : List Value := (List.range m).map fun j => (w.cell? (ad.add (i * k + (o + j)))).getD undef
    have hvl : vs.length = m := by simp [vs]
    have hvs : ∀ j v, vs[j]? = some v → j < m ∧ w.cell? (ad.add (i * k + (o + j))) = some v := by
      intro j v hj
      have hjm : j < m := by rw [← hvl]; exact (List.getElem?_eq_some_iff.1 hj).1
      obtain ⟨v', hc, _⟩ := sel_cell hs hi (j := o + j) (by omega)
      refine ⟨hjm, ?_⟩
      simp [vs, hjm] at hj
      rw [hc] at hj ⊢; simpa using hj
    refine ⟨.agg vs.toArray, ?_, .agg (by rw [hvl, h4]) fun j s v hs' hv => ?_⟩
    · have hr := run_loadAgg (w := w) hT (ad := ad.add (i * k + o)) (cs := vs) hvl (fun j v hj => by rw [add_add, Nat.add_assoc]; exact (hvs j v hj).2)
      simp [execOp, hx, Instr.loadAt, Instr.sureAddr, hr]
    · obtain ⟨hjm, hc⟩ := hvs j v hv
      obtain ⟨v', hc', hv', _⟩ := sel_cell hs hi (j := o + j) (by omega)
      rw [hc] at hc'; injection hc' with hc'; subst hc'
      rw [h5.at_ j s hs'] at hv'
      exact hv'.weaken ρ

theorem rd_fieldP {b o n off : Nat} (hd : d < N) (hT : fieldT P ty' n off) :
    RTD P w0 M N F0 ops ⟨some d, .fieldAddr ty' x n, ty, pos, af, none⟩ (fun st => Ev st x (.ptr b o)) (opKeys x) [.r d (.ptr b (o + off))] := by
  refine ⟨RT.value rfl rfl hd ?_, Dep.ev x _⟩
  rintro st h1 F ρ a w h
  have h5 := h.eval h1
  generalize hx : a.eval x = v at h5
  cases h5 with
  | ptr hρ => exact ⟨_, by simp only [execOp, hx, Sem.run_bind, run_fieldAt hT, Result.andThen_ok, Sem.run_pure, Addr.add_lit], .ptr hρ⟩
theorem rd_fieldE {k m i o n off : Nat} {g : Nat → Nat → SV} (hd : d < N) (hT : fieldT P ty' n off) :
    RTD P w0 M N F0 ops ⟨some d, .fieldAddr ty' x n, ty, pos, af, none⟩ (fun st => Ev st x (.sel k m g i o)) (opKeys x) [.r d (.sel k m g i (o + off))] := by
  refine ⟨RT.value rfl rfl hd ?_, Dep.ev x _⟩
  rintro st h1 F ρ a w h
  have h5 := h.eval h1
  generalize hx : a.eval x = v at h5
  cases h5 with
  | sel hs hi => exact ⟨_, by simp only [execOp, hx, Sem.run_bind, run_fieldAt hT, Result.andThen_ok, Sem.run_pure, add_add, Nat.add_assoc], .sel hs hi⟩
theorem rd_fieldA {b k i o n off : Nat} (hd : d < N) (hT : fieldT P ty' n off) :
    RTD P w0 M N F0 ops ⟨some d, .fieldAddr ty' x n, ty, pos, af, none⟩ (fun st => Ev st x (.ael b k i o)) (opKeys x) [.r d (.ael b k i (o + off))] := by
  refine ⟨RT.value rfl rfl hd ?_, Dep.ev x _⟩
  rintro st h1 F ρ a w h
  have h5 := h.eval h1
  generalize hx : a.eval x = v at h5
  cases h5 with
  | ael hρ => exact ⟨_, by simp only [execOp, hx, Sem.run_bind, run_fieldAt hT, Result.andThen_ok, Sem.run_pure, Addr.add_lit, Nat.add_assoc], .ael hρ⟩

/-! ### Numbers and Bools -/

/-- A binary operation whose run is known at two values. -/
theorem rd_bin {op : BinOp} {u v r : Value} {ty2 : TypeId} (hd : d < N) (hg : ∀ (x y : Operand), eqGuard op ty' x y u v = pure ()) (hr : ∀ w : World, (binOp op ty' u v).run P w = .ok r w) {Φ : Prop} :
    RTD P w0 M N F0 ops ⟨some d, .binOp op ty' x y ty2, ty, pos, af, none⟩ (fun st => Ev st x (.val u) ∧ Ev st y (.val v) ∧ Φ) (opKeys x ++ (opKeys y ++ [])) [.r d (.val r)] := by
  refine ⟨RT.value rfl rfl hd ?_, (Dep.ev x _).and ((Dep.ev y _).and (Dep.pure _))⟩
  rintro st ⟨h1, h2, _⟩ F ρ a w h
  exact ⟨r, by simp [execOp, h.evV h1, h.evV h2, hg, hr], .val _⟩

variable {ty2 : TypeId} {m n : Int} {k : IntKind}
theorem rd_add (hd : d < N) : RTD P w0 M N F0 ops ⟨some d, .binOp .add ty' x y ty2, ty, pos, af, none⟩ (fun st => Ev st x (.i m) ∧ Ev st y (.i n) ∧ (-9223372036854775808 ≤ m + n ∧ m + n ≤ 9223372036854775807)) (opKeys x ++ (opKeys y ++ [])) [.r d (.i (m + n))] := by
  refine ⟨RT.value rfl rfl hd ?_, (Dep.ev x _).and ((Dep.ev y _).and (Dep.pure _))⟩
  rintro st ⟨h1, h2, h3⟩ F ρ a w h
  exact ⟨_, by simp only [execOp, h.evV h1, h.evV h2, eqGuard_add, eqGuard_sub, eqGuard_mul, binOp_add, binOp_sub, binOp_mul, Op.intArith, IntWalk.i64_in _ h3, Sem.run_bind, Sem.run_pure, Result.andThen_ok], .val _⟩
theorem rd_sub (hd : d < N) : RTD P w0 M N F0 ops ⟨some d, .binOp .sub ty' x y ty2, ty, pos, af, none⟩ (fun st => Ev st x (.i m) ∧ Ev st y (.i n) ∧ (-9223372036854775808 ≤ m - n ∧ m - n ≤ 9223372036854775807)) (opKeys x ++ (opKeys y ++ [])) [.r d (.i (m - n))] := by
  refine ⟨RT.value rfl rfl hd ?_, (Dep.ev x _).and ((Dep.ev y _).and (Dep.pure _))⟩
  rintro st ⟨h1, h2, h3⟩ F ρ a w h
  exact ⟨_, by simp only [execOp, h.evV h1, h.evV h2, eqGuard_add, eqGuard_sub, eqGuard_mul, binOp_add, binOp_sub, binOp_mul, Op.intArith, IntWalk.i64_in _ h3, Sem.run_bind, Sem.run_pure, Result.andThen_ok], .val _⟩
theorem rd_mul (hd : d < N) : RTD P w0 M N F0 ops ⟨some d, .binOp .mul ty' x y ty2, ty, pos, af, none⟩ (fun st => Ev st x (.i m) ∧ Ev st y (.i n) ∧ (-9223372036854775808 ≤ m * n ∧ m * n ≤ 9223372036854775807)) (opKeys x ++ (opKeys y ++ [])) [.r d (.i (m * n))] := by
  refine ⟨RT.value rfl rfl hd ?_, (Dep.ev x _).and ((Dep.ev y _).and (Dep.pure _))⟩
  rintro st ⟨h1, h2, h3⟩ F ρ a w h
  exact ⟨_, by simp only [execOp, h.evV h1, h.evV h2, eqGuard_add, eqGuard_sub, eqGuard_mul, binOp_add, binOp_sub, binOp_mul, Op.intArith, IntWalk.i64_in _ h3, Sem.run_bind, Sem.run_pure, Result.andThen_ok], .val _⟩
theorem rd_quo (hd : d < N) : RTD P w0 M N F0 ops ⟨some d, .binOp .quo ty' x y ty2, ty, pos, af, none⟩ (fun st => Ev st x (.i m) ∧ Ev st y (.i n) ∧ (n ≠ 0 ∧ -9223372036854775808 ≤ m.tdiv n ∧ m.tdiv n ≤ 9223372036854775807)) (opKeys x ++ (opKeys y ++ [])) [.r d (.i (m.tdiv n))] := by
  refine ⟨RT.value rfl rfl hd ?_, (Dep.ev x _).and ((Dep.ev y _).and (Dep.pure _))⟩
  rintro st ⟨h1, h2, h3, h4⟩ F ρ a w h
  exact ⟨_, by simp [execOp, h.evV h1, h.evV h2, binOp_quo, eqGuard_quo, Op.intDiv, h3, IntWalk.i64_in _ h4], .val _⟩
theorem rd_rem (hd : d < N) : RTD P w0 M N F0 ops ⟨some d, .binOp .rem ty' x y ty2, ty, pos, af, none⟩ (fun st => Ev st x (.i m) ∧ Ev st y (.i n) ∧ n ≠ 0) (opKeys x ++ (opKeys y ++ [])) [.r d (.i (m.tmod n))] := by
  refine ⟨RT.value rfl rfl hd ?_, (Dep.ev x _).and ((Dep.ev y _).and (Dep.pure _))⟩
  rintro st ⟨h1, h2, h3⟩ F ρ a w h
  exact ⟨_, by simp [execOp, h.evV h1, h.evV h2, binOp_rem, eqGuard_rem, Op.intDiv, h3], .val _⟩

theorem rd_quoN (hd : d < N) : RTD P w0 M N F0 ops ⟨some d, .binOp .quo ty' x y ty2, ty, pos, af, none⟩ (fun st => Ev st x (.i m) ∧ Ev st y (.i n) ∧ (0 ≤ m ∧ m ≤ 9223372036854775807 ∧ 0 < n)) (opKeys x ++ (opKeys y ++ [])) [.r d (.i (m / n))] := by
  refine ⟨RT.value rfl rfl hd ?_, (Dep.ev x _).and ((Dep.ev y _).and (Dep.pure _))⟩
  rintro st ⟨h1, h2, h3, h4, h5⟩ F ρ a w h
  have e0 : n ≠ 0 := by omega
  have e1 : m.tdiv n = m / n := Int.tdiv_eq_ediv_of_nonneg h3
  have e2 : 0 ≤ m / n := Int.ediv_nonneg h3 (by omega)
  have e3 : m / n ≤ m := Int.ediv_le_self n h3
  exact ⟨_, by simp [execOp, h.evV h1, h.evV h2, binOp_quo, eqGuard_quo, Op.intDiv, e0, e1, IntWalk.i64_in (m / n) ⟨by omega, by omega⟩], .val _⟩
theorem rd_remN (hd : d < N) : RTD P w0 M N F0 ops ⟨some d, .binOp .rem ty' x y ty2, ty, pos, af, none⟩ (fun st => Ev st x (.i m) ∧ Ev st y (.i n) ∧ (0 ≤ m ∧ 0 < n)) (opKeys x ++ (opKeys y ++ [])) [.r d (.i (m % n))] := by
  refine ⟨RT.value rfl rfl hd ?_, (Dep.ev x _).and ((Dep.ev y _).and (Dep.pure _))⟩
  rintro st ⟨h1, h2, h3, h4⟩ F ρ a w h
  have e0 : n ≠ 0 := by omega
  have e1 : m.tmod n = m % n := Int.tmod_eq_emod_of_nonneg h3
  exact ⟨_, by simp [execOp, h.evV h1, h.evV h2, binOp_rem, eqGuard_rem, Op.intDiv, e0, e1], .val _⟩

theorem rd_cmp {op : BinOp} {r : Int → Int → Bool} (hop : ∀ (k : IntKind) (m n : Int), binOp op ty' (.int k m) (.int k n) = pure (.bool (r m n))) (hd : d < N) :
    RTD P w0 M N F0 ops ⟨some d, .binOp op ty' x y ty2, ty, pos, af, none⟩ (fun st => Ev st x (.val (.int k m)) ∧ Ev st y (.val (.int k n))) (opKeys x ++ opKeys y) [.r d (.b (r m n))] := by
  refine ⟨RT.value rfl rfl hd ?_, (Dep.ev x _).and (Dep.ev y _)⟩
  rintro st ⟨h1, h2⟩ F ρ a w h
  exact ⟨_, by simp [execOp, h.evV h1, h.evV h2, eqGuard_at_int, hop], .val _⟩
theorem rd_lss (hd : d < N) : RTD P w0 M N F0 ops ⟨some d, .binOp .lss ty' x y ty2, ty, pos, af, none⟩ (fun st => Ev st x (.val (.int k m)) ∧ Ev st y (.val (.int k n))) (opKeys x ++ opKeys y) [.r d (.b (decide (m < n)))] :=
  rd_cmp (r := fun m n => decide (m < n)) (fun _ _ _ => binOp_lss _ _ _ _) hd
theorem rd_leq (hd : d < N) : RTD P w0 M N F0 ops ⟨some d, .binOp .leq ty' x y ty2, ty, pos, af, none⟩ (fun st => Ev st x (.val (.int k m)) ∧ Ev st y (.val (.int k n))) (opKeys x ++ opKeys y) [.r d (.b (decide (m ≤ n)))] :=
  rd_cmp (r := fun m n => decide (m ≤ n)) (fun _ _ _ => binOp_leq _ _ _ _) hd
theorem rd_gtr (hd : d < N) : RTD P w0 M N F0 ops ⟨some d, .binOp .gtr ty' x y ty2, ty, pos, af, none⟩ (fun st => Ev st x (.val (.int k m)) ∧ Ev st y (.val (.int k n))) (opKeys x ++ opKeys y) [.r d (.b (decide (n < m)))] :=
  rd_cmp (r := fun m n => decide (n < m)) (fun _ _ _ => binOp_gtr _ _ _ _) hd
theorem rd_geq (hd : d < N) : RTD P w0 M N F0 ops ⟨some d, .binOp .geq ty' x y ty2, ty, pos, af, none⟩ (fun st => Ev st x (.val (.int k m)) ∧ Ev st y (.val (.int k n))) (opKeys x ++ opKeys y) [.r d (.b (decide (n ≤ m)))] :=
  rd_cmp (r := fun m n => decide (n ≤ m)) (fun _ _ _ => binOp_geq _ _ _ _) hd
theorem rd_eql (hd : d < N) : RTD P w0 M N F0 ops ⟨some d, .binOp .eql ty' x y ty2, ty, pos, af, none⟩ (fun st => Ev st x (.val (.int k m)) ∧ Ev st y (.val (.int k n))) (opKeys x ++ opKeys y) [.r d (.b (decide (m = n)))] :=
  rd_cmp (r := fun m n => decide (m = n)) (fun _ _ _ => binOp_eql _ _ _ _) hd
theorem rd_neq (hd : d < N) : RTD P w0 M N F0 ops ⟨some d, .binOp .neq ty' x y ty2, ty, pos, af, none⟩ (fun st => Ev st x (.val (.int k m)) ∧ Ev st y (.val (.int k n))) (opKeys x ++ opKeys y) [.r d (.b (!decide (m = n)))] :=
  rd_cmp (r := fun m n => !decide (m = n)) (fun _ _ _ => binOp_neq _ _ _ _) hd

variable {b c : Bool}
theorem rd_eqlB (hT : P.underlying ty' = some .bool) (hd : d < N) : RTD P w0 M N F0 ops ⟨some d, .binOp .eql ty' x y ty2, ty, pos, af, none⟩ (fun st => Ev st x (.b b) ∧ Ev st y (.b c)) (opKeys x ++ opKeys y) [.r d (.b (b == c))] := by
  refine ⟨RT.value rfl rfl hd ?_, (Dep.ev x _).and (Dep.ev y _)⟩
  rintro st ⟨h1, h2⟩ F ρ a w h
  exact ⟨_, by simp [execOp, h.evV h1, h.evV h2, eqGuard_at_bool, run_eql_bool w ty' b c hT], .val _⟩
theorem rd_neqB (hT : P.underlying ty' = some .bool) (hd : d < N) : RTD P w0 M N F0 ops ⟨some d, .binOp .neq ty' x y ty2, ty, pos, af, none⟩ (fun st => Ev st x (.b b) ∧ Ev st y (.b c)) (opKeys x ++ opKeys y) [.r d (.b (!(b == c)))] := by
  refine ⟨RT.value rfl rfl hd ?_, (Dep.ev x _).and (Dep.ev y _)⟩
  rintro st ⟨h1, h2⟩ F ρ a w h
  exact ⟨_, by simp [execOp, h.evV h1, h.evV h2, eqGuard_at_bool, run_neq_bool w ty' b c hT], .val _⟩
theorem rd_not (hd : d < N) : RTD P w0 M N F0 ops ⟨some d, .unOp .not ty' x, ty, pos, af, none⟩ (fun st => Ev st x (.b b)) (opKeys x) [.r d (.b (!b))] := by
  refine ⟨RT.value rfl rfl hd ?_, Dep.ev x _⟩
  rintro st h1 F ρ a w h
  exact ⟨_, by simp [execOp, h.evV h1, Op.unary], .val _⟩
theorem rd_neg (hd : d < N) : RTD P w0 M N F0 ops ⟨some d, .unOp .neg ty' x, ty, pos, af, none⟩ (fun st => Ev st x (.i m) ∧ (-9223372036854775807 ≤ m ∧ m ≤ 9223372036854775808)) (opKeys x ++ []) [.r d (.i (-m))] := by
  refine ⟨RT.value rfl rfl hd ?_, (Dep.ev x _).and (Dep.pure _)⟩
  rintro st ⟨h1, h2⟩ F ρ a w h
  have h3 : IntKind.i64.wrap (0 - m) = -m := by rw [IntWalk.i64_in _ (by omega)]; omega
  exact ⟨_, by simp only [execOp, h.evV h1, Op.unary, Op.intArith, h3, Sem.run_bind, Sem.run_pure, Result.andThen_ok], .val _⟩
theorem rd_max (hd : d < N) {t1 t2 : TypeId} : RTD P w0 M N F0 ops ⟨some d, .call { callee := .builtin .max, args := #[x, y], argTypes := #[t1, t2] }, ty, pos, af, none⟩ (fun st => Ev st x (.i m) ∧ Ev st y (.i n)) (opKeys x ++ opKeys y) [.r d (.i (max m n))] := by
  refine ⟨RT.value rfl rfl hd ?_, (Dep.ev x _).and (Dep.ev y _)⟩
  rintro st ⟨h1, h2⟩ F ρ a w h
  refine ⟨.int .i64 (max m n), ?_, .val _⟩
  simp only [execOp, resolve, invoke, builtin, Sem.run_bind, Sem.run_pure, Result.andThen_ok, List.map_toArray, List.map_cons, List.map_nil, h.evV h1, h.evV h2, run_max_int2]
  have e : (if n > m then n else m) = max m n := by split <;> omega
  rw [e]
theorem rd_min (hd : d < N) {t1 t2 : TypeId} : RTD P w0 M N F0 ops ⟨some d, .call { callee := .builtin .min, args := #[x, y], argTypes := #[t1, t2] }, ty, pos, af, none⟩ (fun st => Ev st x (.i m) ∧ Ev st y (.i n)) (opKeys x ++ opKeys y) [.r d (.i (min m n))] := by
  refine ⟨RT.value rfl rfl hd ?_, (Dep.ev x _).and (Dep.ev y _)⟩
  rintro st ⟨h1, h2⟩ F ρ a w h
  refine ⟨.int .i64 (min m n), ?_, .val _⟩
  simp only [execOp, resolve, invoke, builtin, Sem.run_bind, Sem.run_pure, Result.andThen_ok, List.map_toArray, List.map_cons, List.map_nil, h.evV h1, h.evV h2, run_min_int2]
  have e : (if n < m then n else m) = min m n := by split <;> omega
  rw [e]

/-! ### pick -/
theorem run_pick (dst : Option Nat) (x y z : Operand) (b : Bool) (hb : a.eval x = .bool b) : (execOp a.eval ⟨dst, .pick x y z, ty, pos, af, none⟩).run P w = .ok (.value (if b then a.eval y else a.eval z)) w := by
  simp only [execOp, hb, asBool, Sem.run_bind, Sem.run_pure, Result.andThen_ok]
theorem rd_pickAnd {c' : Bool} (hd : d < N) : RTD P w0 M N F0 ops ⟨some d, .pick x y (.const (.bool false)), ty, pos, af, none⟩ (fun st => Ev st x (.b b) ∧ Ev st y (.when c' (.b c)) ∧ (b = true → c' = true)) (opKeys x ++ (opKeys y ++ [])) [.r d (.b (b && c))] := by
  refine ⟨RT.value rfl rfl hd ?_, (Dep.ev x _).and ((Dep.ev y _).and (Dep.pure _))⟩
  rintro st ⟨h1, h2, h3⟩ F ρ a w h
  have h4 := h.eval h2
  refine ⟨_, run_pick _ x y _ b (h.evV h1), ?_⟩
  cases b with
  | false => exact .val _
  | true =>
    cases h4 with
    | when hw _ => exact hw (h3 rfl)
theorem rd_pickOr {c' : Bool} (hd : d < N) : RTD P w0 M N F0 ops ⟨some d, .pick x (.const (.bool true)) y, ty, pos, af, none⟩ (fun st => Ev st x (.b b) ∧ Ev st y (.when c' (.b c)) ∧ (b = false → c' = true)) (opKeys x ++ (opKeys y ++ [])) [.r d (.b (b || c))] := by
  refine ⟨RT.value rfl rfl hd ?_, (Dep.ev x _).and ((Dep.ev y _).and (Dep.pure _))⟩
  rintro st ⟨h1, h2, h3⟩ F ρ a w h
  have h4 := h.eval h2
  refine ⟨_, run_pick _ x _ y b (h.evV h1), ?_⟩
  cases b with
  | true => exact .val _
  | false =>
    cases h4 with
    | when hw _ => exact hw (h3 rfl)

end
end Go.Sp
