/- The engine, part M: arrays that a function owns. No condition. -/
import Derived.Test.YtdmfhnpibllfeaaSpL
import Derived.OwnWalk
namespace Go.Sp
open Go Go.RowKit

/-- The array that holds a list. -/
def arrOf {α : Type} (ty k : Nat) (cell : α → Nat → SV) (d : α) (l : List α) : Arr := ⟨ty, k, l.length, fun i j => cell (l.getD i d) j⟩

theorem own_blk {v : Value} {g : Nat} (h : v.ownBlock = some g) : blkOf v = some g := by
  cases v <;> simp [Value.ownBlock] at h
  rename_i p _ _
  cases p <;> simp at h
  simpa [blkOf] using h

section
variable {P : Program} {w0 : World} {M : Mod} {N : Nat} {F0 : Nat → Prop} {ops : Array Oper}
variable {F : Nat → Prop} {ρ : Env} {st : St} {a : Act} {w : World}
variable {d : Nat} {x y z : Operand} {ty ty' : TypeId} {pos : String} {af : Array Edge}

theorem beqF {x y : Nat} (h : x ≠ y) : Nat.beq x y = false := Bool.eq_false_iff.2 (fun e => h (Nat.eq_of_beq_eq_true e))

/-- An array that is known no more. -/
theorem Rel'.dropArr (h : Rel' w0 M N F ρ st a w) (b : Nat) : Rel' w0 M N F ρ (st.put (.a b none)) a w := by
  have hA : ∀ b', (st.put (.a b none)).a b' = if b' = b then none else st.a b' := by
    intro b'
    show (bif Nat.beq b' b then none else st.a b') = _
    by_cases e : b' = b
    · subst e; simp
    · simp [beqF e, e]
  have hP : ∀ b', (st.put (.a b none)).present b' → st.present b' := by
    intro b' hp
    unfold St.present at hp ⊢
    rw [hA] at hp
    rcases hp with hp | hp
    · exact .inl hp
    · split at hp
      · exact absurd rfl hp
      · exact .inr hp
  refine ⟨h.fr, ⟨h.mem.dom, h.mem.var, ?_, ?_, ?_, h.mem.fb, h.mem.one⟩, ?_, h.regs, h.sz, h.df, h.pin⟩
  · intro b' A hA'
    rw [hA] at hA'
    split at hA'
    · cases hA'
    · exact h.mem.arr b' A hA'
  · intro b1 b2 v1 v2 g p1 p2; exact h.mem.sep b1 b2 v1 v2 g (hP _ p1) (hP _ p2)
  · intro b' v g p; exact h.mem.own b' v g (hP _ p)
  · intro b' v g p; exact h.lo b' v g (hP _ p)

/-- The world goes on; one block that nothing of this state lies in may be written. -/
theorem Rel'.growRow {w' : World} {row : Option Nat} (h : Rel' w0 M N F ρ st a w) (hg : w.grownBy w' row)
    (hrow : ∀ g, row = some g → ¬ F g ∧ (M.blk g ∨ w0.heap.size ≤ g) ∧ ∀ b v, st.present b → ρ b = some v → blkOf v ≠ some g) : Rel' w0 M N F ρ st a w' := by
  have hF : ∀ g, F g → w'.heap[g]? = w.heap[g]? := fun g hFg => hg.block g (h.mem.fb g hFg) (fun e => (hrow g e.symm).1 hFg)
  have up : ∀ {ρ s v}, Den F w ρ s v → Den F w' ρ s v := fun hd => hd.stay hF
  refine ⟨⟨hg.os.trans h.fr.os, hg.tape.trans h.fr.tape, hg.output.trans h.fr.output, Nat.le_trans h.fr.size hg.size, fun g hlt hM => ?_⟩, ⟨h.mem.dom, ?_, ?_, h.mem.sep, h.mem.own, fun g hFg => Nat.lt_of_lt_of_le (h.mem.fb g hFg) hg.size, h.mem.one⟩, h.lo, fun t => up (h.regs t), h.sz, h.df, h.pin⟩
  · rw [hg.block g (Nat.lt_of_lt_of_le hlt h.fr.size) (fun e => ?_)]
    · exact h.fr.blk g hlt hM
    · rcases (hrow g e.symm).2.1 with hm | hm
      · exact hM hm
      · omega
  · intro b ty k hv
    obtain ⟨g, arr, a1, a2, a3, a4⟩ := h.mem.var b ty k hv
    refine ⟨g, arr, a1, (hg.block g (Array.getElem?_eq_some_iff.1 a2).1 (fun e => ?_)).trans a2, a3, fun j x hj => ⟨up (a4 j x hj).1, (a4 j x hj).2⟩⟩
    exact (hrow g e.symm).2.2 b _ (.inl (by rw [hv]; simp)) a1 rfl
  · intro b A hA
    obtain ⟨v, xs, a1, a2, a3⟩ := h.mem.arr b A hA
    refine ⟨v, xs, a1, a2.kept hg ?_, fun i j hi hj => ?_⟩
    · by_cases hn : v.ownBlock = none
      · exact .inl hn
      · refine .inr (fun e => ?_)
        obtain ⟨g, hg'⟩ := Option.ne_none_iff_exists'.1 hn
        exact (hrow g (by rw [← e, hg'])).2.2 b v (.inr (by rw [hA]; simp)) a1 (own_blk hg')
    · obtain ⟨x, c1, c2, c3⟩ := a3 i j hi hj
      exact ⟨x, c1, up c2, c3⟩

/-- An array that is there already gets a name. -/
theorem Rel'.addArr (h : Rel' w0 M N F ρ st a w) {b d : Nat} {v : Value} {A : Arr} {xs : List Value} (hb : st.d b = false) (hd : d < N) (hown : w.ownsRow 0 A.ty A.k v A.n xs) (h1 : v.oneCell' = true)
    (hc : ∀ i j, i < A.n → j < A.k → ∃ x, xs[i * A.k + j]? = some x ∧ Den F w Env.none (A.g i j) x ∧ x.oneCell' = true)
    (hblk : ∀ g, blkOf v = some g → ¬ F g ∧ (M.blk g ∨ w0.heap.size ≤ g) ∧ ∀ b' v', st.present b' → ρ b' = some v' → blkOf v' ≠ some g) :
    Rel' w0 M N F (ρ.set b v) (st.app [.d b, .a b (some A), .r d (.own b)]) (a.put (some d) v) w := by
  have hρb := h.mem.dom b hb
  have hρ : ∀ b' x, ρ b' = some x → (ρ.set b v) b' = some x := fun b' x hx => by
    unfold Env.set
    rw [if_neg (fun e => by subst e; rw [hρb] at hx; cases hx)]; exact hx
  have up : ∀ {s u}, Den F w ρ s u → Den F w (ρ.set b v) s u := fun hd => hd.mono (fun _ h => h) (fun _ _ => rfl) _ hρ
  have hA : ∀ b', (st.app [.d b, .a b (some A), .r d (.own b)]).a b' = if b' = b then some A else st.a b' := by
    intro b'
    show (bif Nat.beq b' b then some A else st.a b') = _
    by_cases e : b' = b
    · subst e; simp
    · simp [beqF e, e]
  have hD : ∀ b', (st.app [.d b, .a b (some A), .r d (.own b)]).d b' = if b' = b then true else st.d b' := by
    intro b'
    show (bif Nat.beq b' b then true else st.d b') = _
    by_cases e : b' = b
    · subst e; simp
    · simp [beqF e, e]
  have hV : ∀ b', (st.app [.d b, .a b (some A), .r d (.own b)]).v b' = st.v b' := fun _ => rfl
  have hP : ∀ b', (st.app [.d b, .a b (some A), .r d (.own b)]).present b' → b' ≠ b → st.present b' := by
    rintro b' hp hne
    unfold St.present at hp ⊢
    rw [hV, hA, if_neg hne] at hp
    exact hp
  have hold : ∀ b' u, b' ≠ b → (ρ.set b v) b' = some u → ρ b' = some u := by
    intro b' u hne hv; unfold Env.set at hv; rwa [if_neg hne] at hv
  have hself : ∀ u, (ρ.set b v) b = some u → u = v := by
    intro u hv; unfold Env.set at hv; rw [if_pos rfl] at hv; injection hv with hv; exact hv.symm
  have hvb : ∀ ty k, st.v b = some (ty, k) → False := by
    intro ty k hv
    obtain ⟨g, _, a1, _⟩ := h.mem.var b ty k hv
    rw [hρb] at a1; cases a1
  refine ⟨h.fr, ⟨?_, ?_, ?_, ?_, ?_, h.mem.fb, ?_⟩, ?_, ?_, by simp [Act.put, h.sz], h.df, fun b' g' hp => hρ _ _ (h.pin b' g' hp)⟩
  · intro b' hb'
    rw [hD] at hb'
    by_cases e : b' = b
    · rw [if_pos e] at hb'; cases hb'
    · rw [if_neg e] at hb'
      unfold Env.set; rw [if_neg e]; exact h.mem.dom b' hb'
  · intro b' ty' k' hv
    rw [hV] at hv
    by_cases e : b' = b
    · subst e; exact (hvb _ _ hv).elim
    · obtain ⟨g', arr', a1, a2, a3, a4⟩ := h.mem.var b' ty' k' hv
      exact ⟨g', arr', hρ _ _ a1, a2, a3, fun j x hx => ⟨up (a4 j x hx).1, (a4 j x hx).2⟩⟩
  · intro b' A' hA'
    rw [hA] at hA'
    by_cases e : b' = b
    · rw [if_pos e] at hA'; injection hA' with hA'; subst hA'
      exact ⟨v, xs, by unfold Env.set; rw [if_pos e], hown, hc⟩
    · rw [if_neg e] at hA'
      obtain ⟨v', xs', a1, a2, a3⟩ := h.mem.arr b' A' hA'
      exact ⟨v', xs', hρ _ _ a1, a2, a3⟩
  · intro b1 b2 v1 v2 g' p1 p2 r1 r2 g1 g2
    by_cases e1 : b1 = b
    · by_cases e2 : b2 = b
      · rw [e1, e2]
      · subst e1; rw [hself v1 r1] at g1
        exact absurd g2 ((hblk g' g1).2.2 b2 v2 (hP _ p2 e2) (hold b2 v2 e2 r2))
    · by_cases e2 : b2 = b
      · subst e2; rw [hself v2 r2] at g2
        exact absurd g1 ((hblk g' g2).2.2 b1 v1 (hP _ p1 e1) (hold b1 v1 e1 r1))
      · exact h.mem.sep b1 b2 v1 v2 g' (hP _ p1 e1) (hP _ p2 e2) (hold b1 v1 e1 r1) (hold b2 v2 e2 r2) g1 g2
  · intro b' u g' hp hv hbk hF'
    by_cases e : b' = b
    · subst e; rw [hself u hv] at hbk; exact (hblk g' hbk).1 hF'
    · exact h.mem.own b' u g' (hP _ hp e) (hold b' u e hv) hbk hF'
  · intro b' u hv
    by_cases e : b' = b
    · subst e; rw [hself u hv]; exact h1
    · exact h.mem.one b' u (hold b' u e hv)
  · intro b' u g' hp hv hbk
    by_cases e : b' = b
    · subst e; rw [hself u hv] at hbk; exact (hblk g' hbk).2.1
    · exact h.lo b' u g' (hP _ hp e) (hold b' u e hv) hbk
  · intro t
    rw [getD_put a d _ (by rw [h.sz]; exact hd)]
    show Den F _ _ (bif Nat.beq t d then SV.own b else st.r t) _
    by_cases ht : t = d
    · subst ht
      simp only [Nat.beq_refl, cond_true, if_true]
      exact .own (by unfold Env.set; rw [if_pos rfl])
    · simp only [beqF ht, cond_false, if_neg ht]
      exact up (h.regs t)

/-! ### Operations -/

/-- 'var l []T': a nil slice that will be appended to. -/
theorem rd_nilO {α : Type} {cell : α → Nat → SV} {d0 : α} {e k : Nat} (hd : d < N) :
    RTD P w0 M N F0 ops ⟨some d, .assign (.const (.slice none 0 0)), ty, pos, af, none⟩ (fun st => st.d d = false) [.d d] [.d d, .a d (some (arrOf e k cell d0 [])), .r d (.own d)] := by
  refine ⟨RT.stepW rfl ?_, Dep.d d _⟩
  rintro st h1 F ρ a w h
  refine ⟨.slice none 0 0, _, w, .inl rfl, h.addArr (A := arrOf e k cell d0 []) (xs := []) h1 hd (World.ownsRow_nil w 0 e k) rfl ?_ ?_⟩
  · intro i j hi; exact absurd hi (Nat.not_lt_zero _)
  · intro g hg; cases hg

theorem rd_lenO {α : Type} {cell : α → Nat → SV} {d0 : α} {l : List α} {e k b : Nat} {t e' : TypeId} (hd : d < N) (hT : P.underlying t = some (.slice e')) :
    RTD P w0 M N F0 ops ⟨some d, .call { callee := .builtin .len, args := #[x], argTypes := #[t] }, ty, pos, af, none⟩ (fun st => Ev st x (.own b) ∧ st.a b = some (arrOf e k cell d0 l)) (opKeys x ++ [.a b]) [.r d (.i l.length)] := by
  refine ⟨RT.value rfl rfl hd ?_, (Dep.ev x _).and (Dep.a b _)⟩
  rintro st ⟨h1, h2⟩ F ρ a w h
  have h5 := h.eval h1
  generalize hx : a.eval x = v at h5
  cases h5 with
  | own hρ =>
    obtain ⟨v', xs, a1, a2, a3⟩ := h.mem.arr b _ h2
    rw [hρ] at a1; injection a1 with a1; subst a1
    have hr : ∀ (p : Option Addr) (n c : Nat), (Builtin.len_ #[t] ty #[.slice p n c]).run P w = .ok (goInt n) w := fun p n c => by simp [Builtin.len_, run_underlying hT]
    rcases a2.2 with ⟨rfl, hn⟩ | ⟨g, cap, cur, rfl, _⟩
    · have hn : l.length = 0 := hn
      exact ⟨_, by simp only [execOp, resolve, invoke, builtin, Sem.run_bind, Sem.run_pure, Result.andThen_ok, List.map_toArray, List.map_cons, List.map_nil, hx, hr]; rfl, by rw [hn]; exact .val _⟩
    · exact ⟨_, by simp only [execOp, resolve, invoke, builtin, Sem.run_bind, Sem.run_pure, Result.andThen_ok, List.map_toArray, List.map_cons, List.map_nil, hx, hr]; rfl, .val _⟩

theorem rd_indexO {α : Type} {cell : α → Nat → SV} {d0 : α} {l : List α} {k e b : Nat} {m : Int} {kd : IntKind} (hd : d < N) (hT : elemT P ty' e k) :
    RTD P w0 M N F0 ops ⟨some d, .indexAddr ty' x y, ty, pos, af, none⟩ (fun st => Ev st x (.own b) ∧ st.a b = some (arrOf e k cell d0 l) ∧ Ev st y (.val (.int kd m)) ∧ (0 ≤ m ∧ m < l.length)) (opKeys x ++ ([.a b] ++ (opKeys y ++ []))) [.r d (.ael b k m.toNat 0)] := by
  refine ⟨RT.value rfl rfl hd ?_, (Dep.ev x _).and ((Dep.a b _).and ((Dep.ev y _).and (Dep.pure _)))⟩
  rintro st ⟨h1, h2, h3, h4, h4'⟩ F ρ a w h
  have h5 := h.eval h1
  generalize hx : a.eval x = v at h5
  cases h5 with
  | own hρ =>
    obtain ⟨v', xs, a1, a2, a3⟩ := h.mem.arr b _ h2
    rw [hρ] at a1; injection a1 with a1; subst a1
    rcases a2.2 with ⟨rfl, hn⟩ | ⟨g, cap, cur, rfl, _⟩
    · have hn : l.length = 0 := hn
      omega
    · refine ⟨_, by simp only [execOp, hx, h.evV h3, Sem.run_bind, run_indexAt hT h4 (show m < ((arrOf e k cell d0 l).n : Nat) from h4'), Result.andThen_ok, Sem.run_pure]; rfl, ?_⟩
      have e1 : (⟨g, 0, none⟩ : Addr).add (m.toNat * k) = ⟨g, m.toNat * k + 0, none⟩ := by rw [Addr.add_lit, Nat.zero_add, Nat.add_zero]
      rw [e1]; exact .ael hρ

theorem arr_cell (h : MemOk F w ρ st) {b : Nat} {A : Arr} (hA : st.a b = some A) {g n cap : Nat} (hρ : ρ b = some (.slice (some ⟨g, 0, none⟩) n cap)) {i j : Nat} (hi : i < A.n) (hj : j < A.k) :
    ∃ v, w.cell? ⟨g, i * A.k + j, none⟩ = some v ∧ Den F w Env.none (A.g i j) v ∧ v.oneCell' = true := by
  obtain ⟨v', xs, a1, a2, a3⟩ := h.arr b A hA
  rw [hρ] at a1; injection a1 with a1; subst a1
  obtain ⟨x, c1, c2, c3⟩ := a3 i j hi hj
  have hn : n = A.n := by
    rcases a2.2 with ⟨h', _⟩ | ⟨g', cap', cur, h', _⟩
    · cases h'
    · injection h' with _ h'
  subst hn
  refine ⟨x, ?_, c2, c3⟩
  rw [a2.cellAt (i * A.k + j) (by
    have : (i + 1) * A.k ≤ A.n * A.k := Nat.mul_le_mul_right _ hi
    rw [Nat.add_mul, Nat.one_mul] at this; omega)]
  exact c1

theorem rd_loadA {b k i o : Nat} {A : Arr} {s : SV} (hd : d < N) (hT : scalarT P ty') :
    RTD P w0 M N F0 ops ⟨some d, .load ty' x, ty, pos, af, none⟩ (fun st => Ev st x (.ael b k i o) ∧ st.a b = some A ∧ (A.k = k ∧ i < A.n ∧ o < A.k ∧ A.g i o = s)) (opKeys x ++ ([.a b] ++ [])) [.r d s] := by
  refine ⟨RT.value rfl rfl hd ?_, (Dep.ev x _).and ((Dep.a b _).and (Dep.pure _))⟩
  rintro st ⟨h1, h2, rfl, h4, h5, rfl⟩ F ρ a w h
  have h6 := h.eval h1
  generalize hx : a.eval x = v at h6
  cases h6 with
  | ael hρ =>
    obtain ⟨v, c1, c2, _⟩ := arr_cell h.mem h2 hρ h4 h5
    refine ⟨v, ?_, c2.weaken ρ⟩
    simp [execOp, hx, Instr.loadAt, Instr.sureAddr, loadVar, run_isAgg_scalar hT, run_load, c1]

theorem rd_loadAS {b k i o m : Nat} {A : Arr} {cs : List SV} (hd : d < N) (hT : aggT P ty' m) :
    RTD P w0 M N F0 ops ⟨some d, .load ty' x, ty, pos, af, none⟩ (fun st => Ev st x (.ael b k i o) ∧ st.a b = some A ∧ (A.k = k ∧ i < A.n ∧ o + m ≤ A.k ∧ cs.length = m ∧ ElAre A.g i o cs)) (opKeys x ++ ([.a b] ++ [])) [.r d (.agg cs)] := by
  refine ⟨RT.value rfl rfl hd ?_, (Dep.ev x _).and ((Dep.a b _).and (Dep.pure _))⟩
  rintro st ⟨h1, h2, rfl, h4, h5, h7, h8⟩ F ρ a w h
  have h6 := h.eval h1
  generalize hx : a.eval x = v at h6
  cases h6 with
  | ael hρ =>
    rename_i g _ _
    have hall : ∀ j, j < m → ∃ v, w.cell? ⟨g, i * A.k + (o + j), none⟩ = some v ∧ ∀ s, cs[j]? = some s → Den F w ρ s v := by
      intro j hj
      obtain ⟨v, c1, c2, _⟩ := arr_cell h.mem h2 hρ h4 (show o + j < A.k by omega)
      refine ⟨v, c1, fun s hs => ?_⟩
      rw [h8.at_ j s hs] at c2
      exact c2.weaken ρ
    let vs : List Value := (List.range m).map fun j => (w.cell? ⟨g, i * A.k + (o + j), none⟩).getD undef
    have hvl : vs.length = m := by simp [vs]
    have hvs : ∀ j v, vs[j]? = some v → j < m ∧ w.cell? ⟨g, i * A.k + (o + j), none⟩ = some v := by
      intro j v hj
      have hjm : j < m := by rw [← hvl]; exact (List.getElem?_eq_some_iff.1 hj).1
      obtain ⟨v', hc, _⟩ := hall j hjm
      refine ⟨hjm, ?_⟩
      simp [vs, hjm] at hj
      rw [hc] at hj ⊢; simpa using hj
    refine ⟨.agg vs.toArray, ?_, .agg (by rw [hvl, h7]) fun j s v hs hv => ?_⟩
    · have hr := run_loadAgg (w := w) hT (ad := ⟨g, i * A.k + o, none⟩) (cs := vs) hvl (fun j v hj => by rw [Addr.add_lit, Nat.add_assoc]; exact (hvs j v hj).2)
      simp [execOp, hx, Instr.loadAt, Instr.sureAddr, hr]
    · obtain ⟨hjm, hc⟩ := hvs j v hv
      obtain ⟨v', hc', hv'⟩ := hall j hjm
      rw [hc] at hc'; injection hc' with hc'; subst hc'
      exact hv' s hs

/-! ### Writing into an array -/

theorem put_put_a (st : St) (b : Nat) (x y : Option Arr) : (st.put (.a b x)).put (.a b y) = st.put (.a b y) := by
  refine St.ext' fun κ => ?_
  cases κ <;> first | rfl | skip
  rename_i b'
  show (bif Nat.beq b' b then y else bif Nat.beq b' b then x else st.a b') = (bif Nat.beq b' b then y else st.a b')
  cases Nat.beq b' b <;> rfl

/-- What an array's name stands for is known again. -/
theorem Rel'.putArr (h : Rel' w0 M N F ρ st a w) {b : Nat} {v : Value} {A : Arr} {xs : List Value} (ha : st.a b = none) (hv : st.v b = none) (hρ : ρ b = some v) (hown : w.ownsRow 0 A.ty A.k v A.n xs)
    (hc : ∀ i j, i < A.n → j < A.k → ∃ x, xs[i * A.k + j]? = some x ∧ Den F w Env.none (A.g i j) x ∧ x.oneCell' = true)
    (hblk : ∀ g, blkOf v = some g → ¬ F g ∧ (M.blk g ∨ w0.heap.size ≤ g) ∧ ∀ b' v', st.present b' → ρ b' = some v' → blkOf v' ≠ some g) :
    Rel' w0 M N F ρ (st.put (.a b (some A))) a w := by
  have hA : ∀ b', (st.put (.a b (some A))).a b' = if b' = b then some A else st.a b' := by
    intro b'
    show (bif Nat.beq b' b then some A else st.a b') = _
    by_cases e : b' = b
    · subst e; simp
    · simp [beqF e, e]
  have hP : ∀ b', (st.put (.a b (some A))).present b' → b' ≠ b → st.present b' := by
    rintro b' hp hne
    unfold St.present at hp ⊢
    rw [hA, if_neg hne] at hp
    exact hp
  have hself : ∀ u, ρ b = some u → u = v := by
    intro u hu; rw [hρ] at hu; injection hu with hu; exact hu.symm
  refine ⟨h.fr, ⟨h.mem.dom, h.mem.var, ?_, ?_, ?_, h.mem.fb, h.mem.one⟩, ?_, h.regs, h.sz, h.df, h.pin⟩
  · intro b' A' hA'
    rw [hA] at hA'
    by_cases e : b' = b
    · rw [if_pos e] at hA'; injection hA' with hA'; subst hA'
      exact ⟨v, xs, by rw [e]; exact hρ, hown, hc⟩
    · rw [if_neg e] at hA'
      exact h.mem.arr b' A' hA'
  · intro b1 b2 v1 v2 g' p1 p2 r1 r2 g1 g2
    by_cases e1 : b1 = b
    · by_cases e2 : b2 = b
      · rw [e1, e2]
      · subst e1; rw [hself v1 r1] at g1
        exact absurd g2 ((hblk g' g1).2.2 b2 v2 (hP _ p2 e2) r2)
    · by_cases e2 : b2 = b
      · subst e2; rw [hself v2 r2] at g2
        exact absurd g1 ((hblk g' g2).2.2 b1 v1 (hP _ p1 e1) r1)
      · exact h.mem.sep b1 b2 v1 v2 g' (hP _ p1 e1) (hP _ p2 e2) r1 r2 g1 g2
  · intro b' u g' hp hv' hbk hF'
    by_cases e : b' = b
    · subst e; rw [hself u hv'] at hbk; exact (hblk g' hbk).1 hF'
    · exact h.mem.own b' u g' (hP _ hp e) hv' hbk hF'
  · intro b' u g' hp hv' hbk
    by_cases e : b' = b
    · subst e; rw [hself u hv'] at hbk; exact (hblk g' hbk).2.1
    · exact h.lo b' u g' (hP _ hp e) hv' hbk

theorem arr_novar (h : MemOk F w ρ st) {b : Nat} {A : Arr} (hA : st.a b = some A) : st.v b = none := by
  cases hv : st.v b with
  | none => rfl
  | some x =>
    obtain ⟨g, _, a1, _⟩ := h.var b x.1 x.2 hv
    obtain ⟨v, xs, b1, b2, _⟩ := h.arr b A hA
    rw [a1] at b1; injection b1 with b1; subst b1
    rcases b2.2 with ⟨h', _⟩ | ⟨g', cap', cur, h', _⟩ <;> cases h'

/-- An array's block is its own. -/
theorem arr_alone (h : Rel' w0 M N F ρ st a w) {b : Nat} {A : Arr} (hA : st.a b = some A) {v : Value} (hρ : ρ b = some v) {g : Nat} (hg : blkOf v = some g) :
    ¬ F g ∧ (M.blk g ∨ w0.heap.size ≤ g) ∧ ∀ b' v', (st.put (.a b none)).present b' → ρ b' = some v' → blkOf v' ≠ some g := by
  have hp : st.present b := .inr (by rw [hA]; simp)
  refine ⟨h.mem.own b v g hp hρ hg, h.lo b v g hp hρ hg, fun b' v' hp' hv' e => ?_⟩
  have hne : b' ≠ b := by
    rintro rfl
    unfold St.present at hp'
    have h1 : (st.put (.a b' none)).a b' = none := by show (bif Nat.beq b' b' then none else _) = none; simp
    have h2 : (st.put (.a b' none)).v b' = none := arr_novar h.mem hA
    rw [h1, h2] at hp'
    rcases hp' with hp' | hp' <;> exact hp' rfl
  have hp2 : st.present b' := by
    unfold St.present at hp' ⊢
    have h1 : (st.put (.a b none)).a b' = st.a b' := by show (bif Nat.beq b' b then none else _) = _; rw [beqF hne]; rfl
    rw [h1] at hp'; exact hp'
  exact hne (h.mem.sep b' b v' v g hp2 hp hv' hρ e hg)

theorem Rel'.storeArr (h : Rel' w0 M N F ρ st a w) {b i o g n cap : Nat} {A A' : Arr} {cs : List SV} {vs : List Value} (hA : st.a b = some A) (hρ : ρ b = some (.slice (some ⟨g, 0, none⟩) n cap))
    (h1 : A'.ty = A.ty) (h2 : A'.k = A.k) (h3 : A'.n = A.n) (hi : i < A.n) (ho : o + cs.length ≤ A.k) (hl : cs.length = vs.length)
    (hd : ∀ (j : Nat) (s : SV) (x : Value), cs[j]? = some s → vs[j]? = some x → Den F w Env.none s x ∧ x.oneCell' = true)
    (hg : ∀ i' j', i' < A.n → j' < A.k → (i' = i ∧ o ≤ j' ∧ j' < o + cs.length → cs[j' - o]? = some (A'.g i' j')) ∧ (¬ (i' = i ∧ o ≤ j' ∧ j' < o + cs.length) → A'.g i' j' = A.g i' j')) :
    ∃ w', (Go.storeCells ⟨g, i * A.k + o, none⟩ vs).run P w = .ok () w' ∧ Rel' w0 M N F ρ (st.put (.a b (some A'))) a w' := by
  obtain ⟨v', xs, a1, a2, a3⟩ := h.mem.arr b A hA
  rw [hρ] at a1; injection a1 with a1; subst a1
  have halone := arr_alone h hA hρ (g := g) rfl
  rcases a2.2 with ⟨h', _⟩ | ⟨g', cap', cur, h', _, hcur, hnc, hcm, hcs, htake⟩
  · cases h'
  injection h' with e1 e2 e3
  injection e1 with e1; injection e1 with e1; subst e1 e2 e3
  have hrow : (i + 1) * A.k ≤ A.n * A.k := Nat.mul_le_mul_right _ hi
  rw [Nat.add_mul, Nat.one_mul] at hrow
  have hcap : A.n * A.k ≤ cap * A.k := Nat.mul_le_mul_right _ hnc
  have hfit : i * A.k + o + 0 + vs.length ≤ cur.size := by omega
  have h1c : ∀ v ∈ vs, v.oneCell' = true := by
    intro v hv'
    obtain ⟨j, hj⟩ := List.getElem?_of_mem hv'
    have hjl : j < cs.length := by rw [hl]; exact (List.getElem?_eq_some_iff.1 hj).1
    exact (hd j _ v (List.getElem?_eq_getElem hjl) hj).2
  have hst := run_storeCells_at P g (i * A.k + o) A.ty vs 0 cur w hcur hfit h1c
  simp only [Nat.add_zero] at hst hfit
  refine ⟨_, hst, ?_⟩
  have hgrow : w.grownBy (w.setRow g (cur.toList.take (i * A.k + o) ++ vs ++ cur.toList.drop (i * A.k + o + vs.length)).toArray) (some g) :=
    ⟨rfl, rfl, rfl, by simp, fun k _ hk => setRow_other w g k _ (fun e => hk (by rw [e]))⟩
  have h0 := (h.dropArr b).growRow hgrow (fun g' hg' => by injection hg' with hg'; subst hg'; exact halone)
  have up : ∀ {s v}, Den F w Env.none s v → Den F (w.setRow g (cur.toList.take (i * A.k + o) ++ vs ++ cur.toList.drop (i * A.k + o + vs.length)).toArray) Env.none s v :=
    fun hd => hd.stay fun g' hF => setRow_other w g g' _ (fun e => halone.1 (e ▸ hF))
  have hlen2 : (cur.toList.take (i * A.k + o) ++ vs ++ cur.toList.drop (i * A.k + o + vs.length)).length = cur.size := by
    simp only [List.length_append, List.length_take, List.length_drop, Array.length_toList]; omega
  have h5 := h0.putArr (b := b) (v := .slice (some ⟨g, 0, none⟩) A.n cap) (A := A') (xs := (cur.toList.take (i * A.k + o) ++ vs ++ cur.toList.drop (i * A.k + o + vs.length)).take (A.n * A.k))
    (by show (bif Nat.beq b b then none else _) = none; simp) (arr_novar h.mem hA) hρ ?_ ?_ (fun g' hg' => by injection hg' with hg'; subst hg'; exact halone)
  · rw [put_put_a] at h5; exact h5
  · rw [h1, h2, h3]
    refine ⟨?_, .inr ⟨g, cap, _, rfl, Nat.zero_le _, setRow_heap w g cur _ A.ty (0, 0) hcur, hnc, hcm, ?_, rfl⟩⟩
    · rw [List.length_take, hlen2, hcs]; omega
    · rw [List.size_toArray, hlen2, hcs]
  · intro i' j' hi' hj'
    rw [h3] at hi'; rw [h2] at hj'
    obtain ⟨g1, g2⟩ := hg i' j' hi' hj'
    have hrow' : (i' + 1) * A.k ≤ A.n * A.k := Nat.mul_le_mul_right _ hi'
    rw [Nat.add_mul, Nat.one_mul] at hrow'
    rw [h2, List.getElem?_take, if_pos (by omega), getElem?_splice _ _ _ (by rw [Array.length_toList]; exact hfit)]
    by_cases hin : i' = i ∧ o ≤ j' ∧ j' < o + cs.length
    · have hs := g1 hin
      obtain ⟨rfl, q1, q2⟩ := hin
      rw [if_neg (by omega), if_pos (by omega), show i' * A.k + j' - (i' * A.k + o) = j' - o by omega]
      have hx : vs[j' - o]? = some vs[j' - o] := List.getElem?_eq_getElem (by omega)
      obtain ⟨d1, d2⟩ := hd (j' - o) _ _ hs hx
      exact ⟨_, hx, up d1, d2⟩
    · rw [g2 hin]
      obtain ⟨x, c1, c2, c3⟩ := a3 i' j' hi' hj'
      refine ⟨x, ?_, up c2, c3⟩
      rw [← htake, List.getElem?_take, if_pos (by omega)] at c1
      have hne : ¬ (i * A.k + o ≤ i' * A.k + j' ∧ i' * A.k + j' < i * A.k + o + vs.length) := by
        rintro ⟨q1, q2⟩
        rcases Nat.lt_trichotomy i' i with hlt | rfl | hlt
        · have := Nat.mul_le_mul_right A.k hlt
          rw [Nat.succ_mul] at this; omega
        · exact hin ⟨rfl, by omega, by omega⟩
        · have := Nat.mul_le_mul_right A.k hlt
          rw [Nat.succ_mul] at this; omega
      by_cases q1 : i' * A.k + j' < i * A.k + o
      · rw [if_pos q1]; exact c1
      · rw [if_neg q1, if_neg (by omega)]; exact c1

/-- The cells of an element behind a store. -/
def UpdAre (g g' : Nat → SV) (o : Nat) (cs : List SV) : Nat → Prop
  | 0 => True
  | j + 1 => g' j = (bif Nat.ble o j && Nat.ble (j + 1) (o + cs.length) then nthS cs (j - o) else g j) ∧ UpdAre g g' o cs j
theorem UpdAre.at_ {g g' : Nat → SV} {o : Nat} {cs : List SV} : ∀ {k : Nat}, UpdAre g g' o cs k → ∀ j, j < k → g' j = (bif Nat.ble o j && Nat.ble (j + 1) (o + cs.length) then nthS cs (j - o) else g j)
  | 0, _, j, hj => absurd hj (Nat.not_lt_zero _)
  | k + 1, h, j, hj => by
    by_cases e : j = k
    · subst e; exact h.1
    · exact h.2.at_ j (by omega)

theorem nthS_get' : ∀ {cs : List SV} {j : Nat}, j < cs.length → cs[j]? = some (nthS cs j)
  | [], j, h => absurd h (Nat.not_lt_zero _)
  | _ :: _, 0, _ => rfl
  | _ :: r, j + 1, h => by simpa [nthS] using nthS_get' (cs := r) (j := j) (by simpa using h)

theorem updArr {α : Type} {cell : α → Nat → SV} {d0 x' : α} {l : List α} {e k i o : Nat} {cs : List SV} (hu : UpdAre (cell (l.getD i d0)) (cell x') o cs k) (ho : o + cs.length ≤ k) (hi : i < l.length) :
    ∀ i' j', i' < (arrOf e k cell d0 l).n → j' < (arrOf e k cell d0 l).k →
      (i' = i ∧ o ≤ j' ∧ j' < o + cs.length → cs[j' - o]? = some ((arrOf e k cell d0 (l.set i x')).g i' j')) ∧ (¬ (i' = i ∧ o ≤ j' ∧ j' < o + cs.length) → (arrOf e k cell d0 (l.set i x')).g i' j' = (arrOf e k cell d0 l).g i' j') := by
  intro i' j' hi' hj'
  have hj' : j' < k := hj'
  have hget : (l.set i x').getD i' d0 = if i' = i then x' else l.getD i' d0 := by
    by_cases e : i' = i
    · subst e; simp [List.getD_eq_getElem?_getD, hi]
    · simp [List.getD_eq_getElem?_getD, e, List.getElem?_set, Ne.symm e]
  show (_ → cs[j' - o]? = some (cell ((l.set i x').getD i' d0) j')) ∧ (_ → cell ((l.set i x').getD i' d0) j' = cell (l.getD i' d0) j')
  rw [hget]
  have := hu.at_ j' hj'
  refine ⟨?_, ?_⟩
  · rintro ⟨rfl, q1, q2⟩
    rw [if_pos rfl, this, Nat.ble_eq_true_of_le q1, Nat.ble_eq_true_of_le (show j' + 1 ≤ o + cs.length by omega)]
    exact nthS_get' (by omega)
  · intro hne
    by_cases e : i' = i
    · subst e
      rw [if_pos rfl, this]
      have hb : (Nat.ble o j' && Nat.ble (j' + 1) (o + cs.length)) = false := by
        rw [Bool.and_eq_false_iff]
        by_cases q : o ≤ j'
        · right
          refine Bool.eq_false_iff.2 fun h => hne ⟨rfl, q, ?_⟩
          have := Nat.le_of_ble_eq_true h; omega
        · left
          exact Bool.eq_false_iff.2 fun h => q (Nat.le_of_ble_eq_true h)
      rw [hb]; rfl
    · rw [if_neg e]

theorem rd_storeA {α : Type} {cell : α → Nat → SV} {d0 : α} {l : List α} {e k b i o : Nat} {s : SV} (x' : α) (hT : sizeT P ty' 1) :
    RTD P w0 M N F0 ops ⟨none, .store ty' x y, ty, pos, af, none⟩
      (fun st => Ev st x (.ael b k i o) ∧ Ev st y s ∧ st.a b = some (arrOf e k cell d0 l) ∧ (closed1 s = true ∧ oneS s = true ∧ i < l.length ∧ o < k ∧ UpdAre (cell (l.getD i d0)) (cell x') o [s] k))
      (opKeys x ++ (opKeys y ++ ([.a b] ++ []))) [.a b (some (arrOf e k cell d0 (l.set i x')))] := by
  refine ⟨RT.stepW rfl ?_, (Dep.ev x _).and ((Dep.ev y _).and ((Dep.a b _).and (Dep.pure _)))⟩
  rintro st ⟨h1, h2, h3, hc, h5, hi, ho, hu⟩ F ρ a w h
  have h6 := h.eval h1
  have h7 := h.eval h2
  have h8 := oneS_spec h7 h.mem.one h5
  generalize hx : a.eval x = v at h6
  cases h6 with
  | ael hρ =>
    rename_i g n cap
    obtain ⟨w', hr, hk⟩ := h.storeArr (P := P) (i := i) (o := o) (A' := arrOf e k cell d0 (l.set i x')) (cs := [s]) (vs := [a.eval y]) h3 hρ rfl rfl (by simp [arrOf]) hi ho rfl (by
      intro j s' x' hs hx'
      cases j with
      | zero => simp at hs hx'; subst hs hx'; exact ⟨h7.closed1 hc, h8⟩
      | succ j => simp at hs) (updArr hu ho hi)
    refine ⟨undef, ρ, w', .inr ⟨?_, rfl⟩, hk⟩
    have hc := cells_one h8
    have hrs := run_storeVar (w := w) hT (ad := ⟨g, i * k + o, none⟩) (v := a.eval y) (by rw [hc]; rfl)
    rw [hc] at hrs
    have hr' : (Go.storeCells ⟨g, i * k + o, none⟩ [a.eval y]).run P w = .ok () w' := hr
    simp only [execOp, hx, Instr.storeAt, Instr.sureAddr, Sem.run_bind, Sem.run_pure, Result.andThen_ok, hrs, hr']

end
end Go.Sp
