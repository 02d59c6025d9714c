/- The engine, part I: slices that are only read, literals, strings, structs that are compared. No condition. -/
import Derived.Test.YtdmfhnpibllfeaaSpH
namespace Go.Sp
open Go Go.RowKit

/-- A read-only slice that holds a list: cell x j is cell j of the element x. -/
def slOf {α : Type} (k : Nat) (cell : α → Nat → SV) (d : α) (l : List α) : SV := .sl k l.length (fun i j => cell (l.getD i d) j)
def cellI (n : Int) (_ : Nat) : SV := .i n
def ints (l : List Int) : SV := slOf 1 cellI 0 l
def cellB (b : Bool) (_ : Nat) : SV := .b b
def bools (l : List Bool) : SV := slOf 1 cellB false l
def cellS (s : ByteArray) (_ : Nat) : SV := .s s
def strs (l : List ByteArray) : SV := slOf 1 cellS .empty l

/-- The elements of a slice's type. -/
def elemT (P : Program) (t e k : Nat) : Prop := P.underlying t = some (.slice e) ∧ sizeT P e k

theorem Den.ext {F : Nat → Prop} {w : World} {ρ : Env} {k n : Nat} {g g' : Nat → Nat → SV} {v : Value} (h : Den F w ρ (.sl k n g) v) (he : ∀ i j, i < n → j < k → g i j = g' i j) : Den F w ρ (.sl k n g') v := by
  cases h with
  | nilsl => exact .nilsl
  | sl cell a1 a2 a3 a4 a5 a6 => exact .sl cell a1 a2 a3 a4 a5 (fun i j hi hj => by rw [← he i j hi hj]; exact a6 i j hi hj)

def ElsAre (g : Nat → Nat → SV) : Nat → List (List SV) → Prop
  | _, [] => True
  | i, e :: r => ElAre g i 0 e ∧ ElsAre g (i + 1) r
theorem ElsAre.at_ {g : Nat → Nat → SV} : ∀ {es : List (List SV)} {i : Nat}, ElsAre g i es → ∀ m e, es[m]? = some e → ElAre g (i + m) 0 e
  | [], _, _, m, e, h => by simp at h
  | e0 :: r, i, ⟨h0, h1⟩, m, e, h => by
    cases m with
    | zero => simp at h; subst h; exact h0
    | succ m => have := h1.at_ m e (by simpa using h); rwa [show i + 1 + m = i + (m + 1) by omega] at this
def cellsOfS : SV → List SV
  | .agg l => l
  | s => [s]

section
variable {P : Program} {w0 : World} {M : Mod} {N : Nat} {F0 : Nat → Prop} {ops : Array Oper}
variable {F : Nat → Prop} {ρ : Env} {st : St} {a : Act} {w : World}
variable {d : Nat} {x y z : Operand} {ty ty' : TypeId} {pos : String} {af : Array Edge}

theorem rd_nilCheckP {b o : Nat} (hd : d < N) : RTD P w0 M N F0 ops ⟨some d, .nilCheck x, ty, pos, af, none⟩ (fun st => Ev st x (.ptr b o)) (opKeys x) [.r d (.ptr b o)] := by
  refine ⟨RT.value rfl rfl hd ?_, Dep.ev x _⟩
  rintro st h1 F ρ a w h
  have h5 := h.eval h1
  generalize hx : a.eval x = v at h5
  cases h5 with
  | ptr hρ => exact ⟨_, by simp only [execOp, hx, Sem.run_pure], .ptr hρ⟩

theorem rd_len {k n : Nat} {g : Nat → Nat → SV} {t : TypeId} {e : TypeId} (hd : d < N) (hT : P.underlying t = some (.slice e)) :
    RTD P w0 M N F0 ops ⟨some d, .call { callee := .builtin .len, args := #[x], argTypes := #[t] }, ty, pos, af, none⟩ (fun st => Ev st x (.sl k n g)) (opKeys x) [.r d (.i n)] := by
  refine ⟨RT.value rfl rfl hd ?_, Dep.ev x _⟩
  rintro st h1 F ρ a w h
  have h5 := h.eval h1
  generalize hx : a.eval x = v at h5
  have hr : ∀ (p : Option Addr) (c : Nat), (Builtin.len_ #[t] ty #[.slice p n c]).run P w = .ok (goInt n) w := fun p c => by simp [Builtin.len_, run_underlying hT]
  cases h5 with
  | nilsl => exact ⟨_, by simp only [execOp, resolve, invoke, builtin, Sem.run_bind, Sem.run_pure, Result.andThen_ok, List.map_toArray, List.map_cons, List.map_nil, hx, hr]; rfl, .val _⟩
  | sl cell a1 a2 a3 a4 a5 a6 => exact ⟨_, by simp only [execOp, resolve, invoke, builtin, Sem.run_bind, Sem.run_pure, Result.andThen_ok, List.map_toArray, List.map_cons, List.map_nil, hx, hr]; rfl, .val _⟩

theorem run_indexAt {t e k : Nat} (hT : elemT P t e k) {ad : Addr} {n c : Nat} {kd : IntKind} {i : Int} (h0 : 0 ≤ i) (h1 : i < n) :
    (Instr.indexAt t (.slice (some ad) n c) (.int kd i)).run P w = .ok (.pointer (some (ad.add (i.toNat * k)))) w := by
  simp [Instr.indexAt, run_underlying hT.1, asIntOf, h0, h1, run_sizeOf hT.2]

theorem rd_index {k n e : Nat} {g : Nat → Nat → SV} {m : Int} {kd : IntKind} (hd : d < N) (hT : elemT P ty' e k) :
    RTD P w0 M N F0 ops ⟨some d, .indexAddr ty' x y, ty, pos, af, none⟩ (fun st => Ev st x (.sl k n g) ∧ Ev st y (.val (.int kd m)) ∧ (0 ≤ m ∧ m < n)) (opKeys x ++ (opKeys y ++ [])) [.r d (.sel k n g m.toNat 0)] := by
  refine ⟨RT.value rfl rfl hd ?_, (Dep.ev x _).and ((Dep.ev y _).and (Dep.pure _))⟩
  rintro st ⟨h1, h2, h3, h4⟩ F ρ a w h
  have h5 := h.eval h1
  generalize hx : a.eval x = v at h5
  cases h5 with
  | nilsl => exact absurd h4 (by omega)
  | sl cell a1 a2 a3 a4 a5 a6 =>
    exact ⟨_, by simp only [execOp, hx, h.evV h2, Sem.run_bind, run_indexAt hT h3 h4, Result.andThen_ok, Sem.run_pure]; rfl, .sel (.sl cell a1 a2 a3 a4 a5 a6) (by omega)⟩

theorem add_zero' (a : Addr) : a.add 0 = a := by simp [Addr.add]

theorem Den.cut {k n lo hi cap m : Nat} {g g' : Nat → Nat → SV} {ad : Addr} (h : Den F w Env.none (.sl k n g) (.slice (some ad) n cap)) (hlo : lo ≤ hi) (hhi : hi ≤ n) (hm : hi - lo ≤ m) (hmc : m ≤ maxLen)
    (he : ∀ i j, i < hi - lo → j < k → g' i j = g (lo + i) j) : Den F w ρ (.sl k (hi - lo) g') (.slice (some (ad.add (lo * k))) (hi - lo) m) := by
  cases h with
  | sl cell a1 a2 a3 a4 a5 a6 =>
    refine .sl (fun i j => cell (lo + i) j) (by rw [block_add]; exact a1) hm hmc (fun i j hi' hj => ?_) (fun i j hi' hj => a5 _ _ (by omega) hj) (fun i j hi' hj => ?_)
    · rw [add_add, show lo * k + (i * k + j) = (lo + i) * k + j by rw [Nat.add_mul]; omega]
      exact a4 _ _ (by omega) hj
    · rw [he i j hi' hj]; exact a6 _ _ (by omega) hj

/-- 'x[lo:hi]', 'x[:hi]', 'x[lo:]' of a slice that is only read. -/
theorem run_sliceAt {t e k : Nat} (hT : elemT P t e k) {p : Option Addr} {n c : Nat} {kl kh : IntKind} {lo hi : Int} (h0 : 0 ≤ lo) (h1 : lo ≤ hi) (h2 : hi ≤ c) :
    (Instr.sliceAt t (.slice p n c) (some (.int kl lo)) (some (.int kh hi)) none).run P w = .ok (.slice (if c = lo.toNat then p else p.map (·.add (lo.toNat * k))) (hi.toNat - lo.toNat) (c - lo.toNat)) w := by
  have e1 : hi ≤ (c : Int) := h2
  have e2 : (lo : Int) ≤ (hi.toNat : Int) := by omega
  have e3 : 0 ≤ hi := by omega
  have e4 : max hi 0 = hi := by omega
  simp [Instr.sliceAt, Instr.slice, run_underlying hT.1, Instr.sliceBounds, Instr.sliceBound, asIntOf, h0, h1, e1, e3, e4, run_sizeOf hT.2]
theorem run_sliceAtTo {t e k : Nat} (hT : elemT P t e k) {p : Option Addr} {n c : Nat} {kh : IntKind} {hi : Int} (h1 : 0 ≤ hi) (h2 : hi ≤ c) :
    (Instr.sliceAt t (.slice p n c) none (some (.int kh hi)) none).run P w = .ok (.slice (if c = 0 then p else p.map (·.add (0 * k))) hi.toNat c) w := by
  have e1 : hi ≤ (c : Int) := h2
  simp [Instr.sliceAt, Instr.slice, run_underlying hT.1, Instr.sliceBounds, Instr.sliceBound, asIntOf, h1, e1, run_sizeOf hT.2]
theorem run_sliceAtFrom {t e k : Nat} (hT : elemT P t e k) {p : Option Addr} {n c : Nat} {kl : IntKind} {lo : Int} (h0 : 0 ≤ lo) (h1 : lo ≤ n) :
    (Instr.sliceAt t (.slice p n c) (some (.int kl lo)) none none).run P w = .ok (.slice (if c = lo.toNat then p else p.map (·.add (lo.toNat * k))) (n - lo.toNat) (c - lo.toNat)) w := by
  simp [Instr.sliceAt, Instr.slice, run_underlying hT.1, Instr.sliceBounds, Instr.sliceBound, asIntOf, h0, h1, run_sizeOf hT.2]

theorem rd_sliceTo {α : Type} {k e : Nat} {cell : α → Nat → SV} {d0 : α} {l : List α} {m : Int} {kd : IntKind} (hd : d < N) (hT : elemT P ty' e k) :
    RTD P w0 M N F0 ops ⟨some d, .slice ty' x none (some y) none, ty, pos, af, none⟩ (fun st => Ev st x (slOf k cell d0 l) ∧ Ev st y (.val (.int kd m)) ∧ (0 ≤ m ∧ m ≤ l.length)) (opKeys x ++ (opKeys y ++ [])) [.r d (slOf k cell d0 (l.take m.toNat))] := by
  refine ⟨RT.value rfl rfl hd ?_, (Dep.ev x _).and ((Dep.ev y _).and (Dep.pure _))⟩
  rintro st ⟨h1, h2, h3, h4⟩ F ρ a w h
  have h5 := h.eval h1
  have hlen : (l.take m.toNat).length = m.toNat := by simp; omega
  have he : ∀ i j, i < m.toNat - 0 → j < k → cell ((l.take m.toNat).getD i d0) j = cell (l.getD (0 + i) d0) j := by
    intro i j hi _
    rw [List.getD_eq_getElem?_getD, List.getElem?_take, if_pos (by omega), Nat.zero_add, ← List.getD_eq_getElem?_getD]
  unfold slOf at h5
  generalize hx : a.eval x = v at h5
  generalize hn : l.length = n at h5 h4
  cases h5 with
  | nilsl =>
    have hm : m = 0 := by omega
    subst hm
    rename_i c
    refine ⟨.slice none 0 c, ?_, ?_⟩
    · simp only [execOp, hx, h.evV h2, Option.map_none, Option.map_some, Sem.run_bind, run_sliceAtTo hT (Int.le_refl 0) (Int.natCast_nonneg c), Result.andThen_ok, Sem.run_pure, Int.toNat_zero]
      congr 3; split <;> rfl
    · unfold slOf; rw [hlen]; exact .nilsl
  | sl cl a1 a2 a3 a4 a5 a6 =>
    rename_i ad cap
    refine ⟨.slice (if cap = 0 then some ad else some (ad.add (0 * k))) m.toNat cap, ?_, ?_⟩
    · simp only [execOp, hx, h.evV h2, Option.map_none, Option.map_some, Sem.run_bind, run_sliceAtTo (p := some ad) (n := n) (c := cap) hT h3 (by omega), Result.andThen_ok, Sem.run_pure]
    · have hif : (if cap = 0 then some ad else some (ad.add (0 * k))) = some (ad.add (0 * k)) := by rw [Nat.zero_mul, add_zero']; split <;> rfl
      rw [hif]
      unfold slOf; rw [hlen]
      have := Den.cut (ρ := ρ) (lo := 0) (hi := m.toNat) (m := cap) (.sl cl a1 a2 a3 a4 a5 a6) (Nat.zero_le _) (by omega) (by omega) a3 he
      rwa [Nat.sub_zero] at this
theorem rd_sliceFrom {α : Type} {k e : Nat} {cell : α → Nat → SV} {d0 : α} {l : List α} {m : Int} {kd : IntKind} (hd : d < N) (hT : elemT P ty' e k) :
    RTD P w0 M N F0 ops ⟨some d, .slice ty' x (some y) none none, ty, pos, af, none⟩ (fun st => Ev st x (slOf k cell d0 l) ∧ Ev st y (.val (.int kd m)) ∧ (0 ≤ m ∧ m ≤ l.length)) (opKeys x ++ (opKeys y ++ [])) [.r d (slOf k cell d0 (l.drop m.toNat))] := by
  refine ⟨RT.value rfl rfl hd ?_, (Dep.ev x _).and ((Dep.ev y _).and (Dep.pure _))⟩
  rintro st ⟨h1, h2, h3, h4⟩ F ρ a w h
  have h5 := h.eval h1
  have hlen : (l.drop m.toNat).length = l.length - m.toNat := by simp
  have he : ∀ i j, i < l.length - m.toNat → j < k → cell ((l.drop m.toNat).getD i d0) j = cell (l.getD (m.toNat + i) d0) j := by
    intro i j hi _
    rw [List.getD_eq_getElem?_getD, List.getElem?_drop, ← List.getD_eq_getElem?_getD]
  unfold slOf at h5
  generalize hx : a.eval x = v at h5
  generalize hn : l.length = n at h5 h4 hlen he
  cases h5 with
  | nilsl =>
    have hm : m = 0 := by omega
    subst hm
    rename_i c
    refine ⟨.slice none 0 c, ?_, ?_⟩
    · simp only [execOp, hx, h.evV h2, Option.map_none, Option.map_some, Sem.run_bind, run_sliceAtFrom hT (Int.le_refl 0) (Int.le_refl 0), Result.andThen_ok, Sem.run_pure, Int.toNat_zero, Nat.sub_zero]
      congr 3; split <;> rfl
    · unfold slOf; rw [hlen]; exact .nilsl
  | sl cl a1 a2 a3 a4 a5 a6 =>
    rename_i ad cap
    refine ⟨.slice (if cap = m.toNat then some ad else some (ad.add (m.toNat * k))) (n - m.toNat) (cap - m.toNat), ?_, ?_⟩
    · simp only [execOp, hx, h.evV h2, Option.map_none, Option.map_some, Sem.run_bind, run_sliceAtFrom hT h3 h4, Result.andThen_ok, Sem.run_pure]
    · unfold slOf; rw [hlen]
      by_cases hc : cap = m.toNat
      · rw [if_pos hc]
        have h0 : n - m.toNat = 0 := by omega
        rw [h0]
        exact .sl (fun _ _ => undef) a1 (by omega) (by omega) (fun i j hi => by omega) (fun i j hi => by omega) (fun i j hi => by omega)
      · rw [if_neg hc]
        exact Den.cut (ρ := ρ) (lo := m.toNat) (hi := n) (m := cap - m.toNat) (.sl cl a1 a2 a3 a4 a5 a6) (by omega) (Nat.le_refl _) (by omega) (by omega) he

/-! ### Literals -/
theorem splice_foldl (off : Nat) : ∀ (vs : List Value) (k : Nat) (cs : Array Value), (List.foldl (fun cs (p : Value × Nat) => cs.setIfInBounds (off + p.2) p.1) cs (vs.zipIdx k)).toList = (List.foldl (fun l (p : Value × Nat) => l.set (off + p.2) p.1) cs.toList (vs.zipIdx k))
  | [], _, _ => rfl
  | v :: vs, k, cs => by
    simp only [List.zipIdx_cons, List.foldl_cons]
    rw [splice_foldl off vs (k + 1)]
    simp
theorem foldl_set (off : Nat) : ∀ (vs : List Value) (k : Nat) (l : List Value) (i : Nat), off + k + vs.length ≤ l.length →
    (List.foldl (fun l (p : Value × Nat) => l.set (off + p.2) p.1) l (vs.zipIdx k)).length = l.length ∧
    (List.foldl (fun l (p : Value × Nat) => l.set (off + p.2) p.1) l (vs.zipIdx k))[i]? = if off + k ≤ i ∧ i < off + k + vs.length then vs[i - (off + k)]? else l[i]?
  | [], k, l, i, _ => by
    refine ⟨rfl, ?_⟩
    rw [if_neg (by simp)]; rfl
  | v :: vs, k, l, i, h => by
    simp only [List.zipIdx_cons, List.foldl_cons]
    obtain ⟨h1, h2⟩ := foldl_set off vs (k + 1) (l.set (off + k) v) i (by simp at h ⊢; omega)
    refine ⟨by rw [h1]; simp, ?_⟩
    rw [h2]
    simp only [List.length_cons] at h ⊢
    by_cases c1 : i = off + k
    · subst c1
      rw [if_neg (by omega), if_pos (by omega), List.getElem?_set_self (by omega)]; simp
    · by_cases c2 : off + (k + 1) ≤ i ∧ i < off + (k + 1) + vs.length
      · rw [if_pos c2, if_pos (by omega), show i - (off + k) = (i - (off + (k + 1))) + 1 by omega]; simp
      · rw [if_neg c2, if_neg (by omega), List.getElem?_set_ne (by omega)]

/-- A part is filled in. -/
theorem fill_cons {place : Nat → Option (Nat × Nat)} {cells : Array Value} {i : Nat} {v : Value} {rest : List (Nat × Value)} {off size : Nat} (hp : place i = some (off, size)) (hs : v.cells.size = size) (hf : off + size ≤ cells.size) :
    ∃ cells', Instr.fill place cells ((i, v) :: rest) = Instr.fill place cells' rest ∧ cells'.size = cells.size ∧ ∀ j, cells'[j]? = if off ≤ j ∧ j < off + size then v.cells[j - off]? else cells[j]? := by
  subst hs
  refine ⟨v.cells.zipIdx.foldl (fun cs (c, j) => cs.setIfInBounds (off + j) c) cells, ?_, ?_, fun j => ?_⟩
  · simp only [Instr.fill, hp]
    rw [if_neg (by simp; omega)]
  · have h := (foldl_set off v.cells.toList 0 cells.toList 0 (by simpa using hf)).1
    rw [← Array.foldl_toList, Array.toList_zipIdx]
    have h2 := splice_foldl off v.cells.toList 0 cells
    have h3 := congrArg List.length h2
    rw [h] at h3
    simpa using h3
  · have h := (foldl_set off v.cells.toList 0 cells.toList j (by simpa using hf)).2
    rw [← Array.foldl_toList, Array.toList_zipIdx, ← Array.getElem?_toList]
    have h2 := splice_foldl off v.cells.toList 0 cells
    refine Eq.trans (congrArg (fun l => l[j]?) h2) (h.trans ?_)
    simp

end
end Go.Sp
