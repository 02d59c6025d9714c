/- The second engine, part DI: a map of bound functions is made, its entries in any order. No condition. -/
import Derived.Test.YtpgigbdefbeagaaGreatDoorSqLB
namespace Go.Sq
open Go Go.RowKit Go.MapKept
section
variable {P : Program} {ops : Array Oper}
theorem qj9 {Q : Exit → Act → World → Prop} (I : (Nat → Bool) → Act → World → Prop)
  (hback : ∀ i o, ops[i]? = some o → ∀ e ∈ o.after, Region.binds .any e = true → e.on < i)
  (hstep : ∀ X a w i o, ops[i]? = some o → X i = false → (∀ e ∈ o.after, Region.binds .any e = true → X e.on = true) → I X a w →
   o.guard = none ∧ ∃ v w', ((execOp a.eval o).run P w = .ok (.value v) w' ∨ ((execOp a.eval o).run P w = .ok .skip w' ∧ v = undef)) ∧ I (fun j => Nat.beq j i || X j) (a.put o.dst v) w')
  (hend : ∀ X a w, (∀ i, i < ops.size → X i = true) → I X a w → Q .normal a w) :
  ∀ (l : List Oper) (k : Nat) (a : Act) (w : World), (∀ j, l[j]? = ops[k + j]?) → I (fun j => decide (j < k)) a w → wpList P ops Q l a w
 | [], k, a, w, hl, hi => by
  refine hend _ a w (fun i hs => ?_) hi
  have h0 := hl (i - k)
  by_cases h : i < k
  ·exact decide_eq_true h
  ·rw [show k + (i - k) = i by omega, Array.getElem?_eq_getElem hs] at h0; simp at h0
 | o :: l, k, a, w, hl, hi => by
  have ho : ops[k]? = some o := by simpa using (hl 0).symm
  obtain ⟨hg, v, w', hrun, hnew⟩ := hstep _ a w k o ho (decide_eq_false (Nat.lt_irrefl k)) (fun e he hb => decide_eq_true (hback k o ho e he hb)) hi
  have hfun : (fun j => Nat.beq j k || decide (j < k)) = fun j => decide (j < k + 1) := by
   funext j
   by_cases e : j = k
   ·subst e; simp
   ·rw [bq e]
    by_cases h : j < k
    ·rw [decide_eq_true h, decide_eq_true (by omega)]; rfl
    ·rw [decide_eq_false h, decide_eq_false (by omega)]; rfl
  rw [hfun] at hnew
  have hK := qj9 I hback hstep hend l (k + 1) _ _ (fun j => by have := hl (j + 1); simpa [Nat.add_assoc, Nat.add_comm 1 j] using this) hnew
  unfold wpList
  rw [if_pos (qaX hg)]
  refine .inl ?_
  unfold Oper.wp
  rcases hrun with hr | ⟨hr, rfl⟩ <;> rw [hr] <;> exact hK
/-! ### The code that makes the map -/
def Dep (af : Array Edge) (k : Nat) : Prop := ∃ e ∈ af, Region.binds .any e = true ∧ e.on = k
def qf9 (g : Nat) (q : List UInt8 × List Int × Nat) : Value := .agg ((q.2.1.map fun n => (.int .i64 n : Value)) ++ [Value.func (.func q.2.2) #[.pointer (some ⟨g, 0, none⟩)] #[]]).toArray
structure qm5 (P : Program) (ops : Array Oper) (N : Nat) (tm ts : TypeId) (l : List (List UInt8 × List Int × Nat)) : Prop where
 size : ops.size = 4 * l.length + 3
 slots : 3 * l.length + 4 < N
 back : ∀ i o, ops[i]? = some o → ∀ e ∈ o.after, Region.binds .any e = true → e.on < i
 op0 : ∃ ty pos af, ops[0]? = some ⟨some 3, .makeMap tm none, ty, pos, af, none⟩
 mv : ∀ j q, l[j]? = some q → ∃ ty pos af, ops[4 * j + 1]? = some ⟨some (3 * j + 4), .move (.tmp 0), ty, pos, af, none⟩
 mf : ∀ j q, l[j]? = some q → ∃ ty pos af, ops[4 * j + 2]? = some ⟨some (3 * j + 5), .makeFunc (.func q.2.2) #[.tmp (3 * j + 4)] #[], ty, pos, af, none⟩ ∧ Dep af (4 * j + 1)
 bd : ∀ j q, l[j]? = some q → ∃ ty pos af parts, ops[4 * j + 3]? = some ⟨some (3 * j + 6), .build ts parts, ty, pos, af, none⟩ ∧ Dep af (4 * j + 2) ∧
  ∀ (a : Act) (w : World) (g : Nat), a.tmps.getD (3 * j + 5) undef = .func (.func q.2.2) #[.pointer (some ⟨g, 0, none⟩)] #[] → (Instr.build ts (parts.map fun (i, x) => (i, a.eval x))).run P w = .ok (qf9 g q) w
 ins : ∀ j q, l[j]? = some q → ∃ ty pos af, ops[4 * j + 4]? = some ⟨none, .insert tm (.tmp 3) (.const (.string ⟨⟨q.1⟩⟩)) (.tmp (3 * j + 6)), ty, pos, af, none⟩ ∧ Dep af 0 ∧ Dep af (4 * j + 3)
 fin : ∃ ty pos af, ops[4 * l.length + 1]? = some ⟨some (3 * l.length + 4), .move (.tmp 3), ty, pos, af, none⟩ ∧ Dep af 0
 res : ∃ ty pos af, ops[4 * l.length + 2]? = some ⟨some 2, .assign (.tmp (3 * l.length + 4)), ty, pos, af, none⟩ ∧ Dep af (4 * l.length + 1)
def qlT (g : Nat) (q : List UInt8 × List Int × Nat) : Value × Value := (.string ⟨⟨q.1⟩⟩, qf9 g q)
structure DispI (l : List (List UInt8 × List Int × Nat)) (N g : Nat) (w0 : World) (X : Nat → Bool) (a : Act) (w : World) : Prop where
 sz : a.tmps.size = N
 df : a.defers = []
 p0 : a.tmps.getD 0 undef = .pointer (some ⟨g, 0, none⟩)
 m0 : X 0 = true → a.tmps.getD 3 undef = .map (some w0.heap.size)
 mv : ∀ j, j < l.length → X (4 * j + 1) = true → a.tmps.getD (3 * j + 4) undef = .pointer (some ⟨g, 0, none⟩)
 mf : ∀ j q, l[j]? = some q → X (4 * j + 2) = true → a.tmps.getD (3 * j + 5) undef = .func (.func q.2.2) #[.pointer (some ⟨g, 0, none⟩)] #[]
 bd : ∀ j q, l[j]? = some q → X (4 * j + 3) = true → a.tmps.getD (3 * j + 6) undef = qf9 g q
 fn : X (4 * l.length + 1) = true → a.tmps.getD (3 * l.length + 4) undef = .map (some w0.heap.size)
 rs : X (4 * l.length + 2) = true → a.tmps.getD 2 undef = .map (some w0.heap.size)
 no : X 0 = false → w = w0 ∧ ∀ j, j < l.length → X (4 * j + 4) = false
 hp : X 0 = true → ∃ es clock, w = w0.alloc (.map es clock) ∧ MapKept.Stamped es clock ∧ (es.toList.map fun e => (e.key, e.val)).Perm (((List.range l.length).filter fun j => X (4 * j + 4)).map fun j => qlT g (l.getD j ([], [], 0)))
theorem qka {p q : Nat → Bool} {j : Nat} : ∀ {L : List Nat}, L.Nodup → j ∈ L → p j = false → (∀ i, q i = (Nat.beq i j || p i)) → (L.filter q).Perm (j :: L.filter p)
 | [], _, h, _, _ => by cases h
 | x :: L, hn, hj, hp, hq => by
  rw [List.nodup_cons] at hn
  rcases List.mem_cons.1 hj with e | hj'
  ·subst e
   have h1 : q j = true := by rw [hq]; simp
   have h2 : L.filter q = L.filter p := List.filter_congr fun y hy => by
    have : y ≠ j := fun e => hn.1 (e ▸ hy)
    rw [hq, bq this]; rfl
   rw [List.filter_cons_of_pos h1, List.filter_cons_of_neg (by rw [hp]; simp), h2]
  ·have hne : x ≠ j := fun e => hn.1 (e ▸ hj')
   have ih := qka hn.2 hj' hp hq
   have hx : q x = p x := by rw [hq, bq hne]; rfl
   cases hpx : p x with
   | true =>
    rw [List.filter_cons_of_pos (by rw [hx, hpx]), List.filter_cons_of_pos hpx]
    exact (ih.cons x).trans (List.Perm.swap _ _ _)
   | false =>
    rw [List.filter_cons_of_neg (by rw [hx, hpx]; simp), List.filter_cons_of_neg (by rw [hpx]; simp)]
    exact ih
theorem qlU {l : List (List UInt8 × List Int × Nat)} : qeR l = true → ∀ {i j : Nat} {p q : List UInt8 × List Int × Nat}, l[i]? = some p → l[j]? = some q → p.1 = q.1 → i = j := by
 intro h i j p q hi hj e
 have h1 := qfq h hi rfl
 have h2 := qfq h hj e.symm
 omega
theorem qp7 (w : World) (o o' : Obj) : { w.alloc o with heap := (w.alloc o).heap.setIfInBounds w.heap.size o' } = w.alloc o' := by
 have e : (w.alloc o).heap.setIfInBounds w.heap.size o' = (w.alloc o').heap := by
  show (w.heap.push o).setIfInBounds w.heap.size o' = w.heap.push o'
  apply Array.ext
  ·simp
  ·intro i h1 h2
   simp only [Array.size_setIfInBounds, Array.size_push] at h1
   rw [Array.getElem_setIfInBounds (by simpa using h1)]
   by_cases e : w.heap.size = i
   ·subst e; simp
   ·rw [if_neg e, Array.getElem_push_lt (by omega), Array.getElem_push_lt (by omega)]
 rw [e]; rfl
theorem qnQ (w : World) (o : Obj) : (w.alloc o).heap[w.heap.size]? = some o := (heap_alloc w o).1
theorem qp8 {N tm ts g : Nat} {l : List (List UInt8 × List Int × Nat)} (h : qm5 P ops N tm ts l) (hk : qeR l = true) {Γ : List TI} (hΓ : Tys P Γ) {kj : TI} {et : TypeId} (hj : kj.ok P) (hj2 : keyOk Γ kj = true) (hj3 : kj.τ = .str) (hm : P.underlying tm = some (.map kj.t et)) {w0 : World}
  {X : Nat → Bool} {a : Act} {w : World} {i : Nat} {o : Oper} (ho : ops[i]? = some o) (hX : X i = false) (hd : ∀ e ∈ o.after, Region.binds .any e = true → X e.on = true) (I : DispI l N g w0 X a w) :
  o.guard = none ∧ ∃ v w', ((execOp a.eval o).run P w = .ok (.value v) w' ∨ ((execOp a.eval o).run P w = .ok .skip w' ∧ v = undef)) ∧ DispI l N g w0 (fun j => Nat.beq j i || X j) (a.put o.dst v) w' := by
 have hi : i < 4 * l.length + 3 := by rw [← h.size]; exact (Array.getElem?_eq_some_iff.1 ho).1
 have dep : ∀ {af : Array Edge} {k : Nat}, Dep af k → o.after = af → X k = true := by
  rintro af k ⟨e, he, hb, rfl⟩ rfl
  exact hd e he hb
 have hsl := h.slots
 have hsz := I.sz
 -- what a new slot leaves
 have keep : ∀ {d t : Nat} {v u : Value}, d < N → t ≠ d → a.tmps.getD t undef = u → (a.put (some d) v).tmps.getD t undef = u := by
  intro d t v u hd ht hu
  rw [qis a d v (by omega), if_neg ht]; exact hu
 have got : ∀ {d : Nat} {v : Value}, d < N → (a.put (some d) v).tmps.getD d undef = v := by
  intro d v hd
  rw [qis a d v (by omega), if_pos rfl]
 have or_ne : ∀ {k : Nat}, (Nat.beq k i || X k) = true → k ≠ i → X k = true := by
  intro k h1 h2
  rw [bq h2] at h1; exact h1
 have or_f : ∀ {k : Nat}, k ≠ i → (Nat.beq k i || X k) = X k := by
  intro k h2
  rw [bq h2]; rfl
 have hsame : (∀ j, j < l.length → 4 * j + 4 ≠ i) → ((List.range l.length).filter fun j => (Nat.beq (4 * j + 4) i || X (4 * j + 4))) = ((List.range l.length).filter fun j => X (4 * j + 4)) := by
  intro hne
  exact List.filter_congr fun j hj => or_f (hne j (List.mem_range.1 hj))
 have hcase : i = 0 ∨ (∃ j, j < l.length ∧ (i = 4 * j + 1 ∨ i = 4 * j + 2 ∨ i = 4 * j + 3 ∨ i = 4 * j + 4)) ∨ i = 4 * l.length + 1 ∨ i = 4 * l.length + 2 := by
  rcases Nat.eq_zero_or_pos i with h0 | h0
  ·exact .inl h0
  ·by_cases h1 : i < 4 * l.length + 1
   ·exact .inr (.inl ⟨(i - 1) / 4, by omega, by omega⟩)
   ·exact .inr (.inr (by omega))
 rcases hcase with rfl | ⟨j, hjl, hc⟩ | rfl | rfl
 ·-- the map is made
  obtain ⟨ty, pos, af, h1⟩ := h.op0
  rw [ho] at h1; injection h1 with h1; subst h1
  obtain ⟨rfl, hno⟩ := I.no hX
  refine ⟨rfl, .map (some w.heap.size), w.alloc (.map #[] 0), .inl rfl, ?_⟩
  refine ⟨by simpa [Act.put] using hsz, I.df, keep (by omega) (by omega) I.p0, fun _ => got (by omega), fun j hj hx => keep (by omega) (by omega) (I.mv j hj (or_ne hx (by omega))), fun j q hq hx => keep (by omega) (by omega) (I.mf j q hq (or_ne hx (by omega))),
   fun j q hq hx => keep (by omega) (by omega) (I.bd j q hq (or_ne hx (by omega))), fun hx => keep (by omega) (by omega) (I.fn (or_ne hx (by omega))), fun hx => keep (by omega) (by omega) (I.rs (or_ne hx (by omega))), fun hx => by simp at hx, fun _ => ⟨#[], 0, rfl, MapKept.stamped_empty 0, ?_⟩⟩
  rw [hsame (fun j _ => by omega), List.filter_eq_nil_iff.2 (fun j hj => by rw [hno j (List.mem_range.1 hj)]; simp)]
  exact List.Perm.refl _
 ·obtain ⟨q, hq⟩ : ∃ q, l[j]? = some q := ⟨_, List.getElem?_eq_getElem hjl⟩
  rcases hc with rfl | rfl | rfl | rfl
  ·obtain ⟨ty, pos, af, h1⟩ := h.mv j q hq
   rw [ho] at h1; injection h1 with h1; subst h1
   refine ⟨rfl, _, w, .inl rfl, ?_⟩
   refine ⟨by simpa [Act.put] using hsz, I.df, keep (by omega) (by omega) I.p0, fun hx => keep (by omega) (by omega) (I.m0 (or_ne hx (by omega))), fun j' hj' hx => ?_, fun j q hq hx => keep (by omega) (by omega) (I.mf j q hq (or_ne hx (by omega))),
    fun j q hq hx => keep (by omega) (by omega) (I.bd j q hq (or_ne hx (by omega))), fun hx => keep (by omega) (by omega) (I.fn (or_ne hx (by omega))), fun hx => keep (by omega) (by omega) (I.rs (or_ne hx (by omega))), fun hx => ?_, fun hx => ?_⟩
   ·by_cases e : j' = j
    ·subst e; rw [got (by omega)]; exact I.p0
    ·exact keep (by omega) (by omega) (I.mv j' hj' (or_ne hx (by omega)))
   ·rw [or_f (by omega)] at hx
    exact ⟨(I.no hx).1, fun j hj => by rw [or_f (by omega)]; exact (I.no hx).2 j hj⟩
   ·rw [or_f (by omega)] at hx
    rw [hsame (fun j _ => by omega)]; exact I.hp hx
  ·obtain ⟨ty, pos, af, h1, h2⟩ := h.mf j q hq
   rw [ho] at h1; injection h1 with h1; subst h1
   have hv := I.mv j hjl (dep h2 rfl)
   refine ⟨rfl, _, w, .inl rfl, ?_⟩
   refine ⟨by simpa [Act.put] using hsz, I.df, keep (by omega) (by omega) I.p0, fun hx => keep (by omega) (by omega) (I.m0 (or_ne hx (by omega))), fun j hj hx => keep (by omega) (by omega) (I.mv j hj (or_ne hx (by omega))), fun j' q' hq' hx => ?_,
    fun j q hq hx => keep (by omega) (by omega) (I.bd j q hq (or_ne hx (by omega))), fun hx => keep (by omega) (by omega) (I.fn (or_ne hx (by omega))), fun hx => keep (by omega) (by omega) (I.rs (or_ne hx (by omega))), fun hx => ?_, fun hx => ?_⟩
   ·by_cases e : j' = j
    ·subst e
     rw [hq] at hq'; injection hq' with hq'; subst hq'
     rw [got (by omega)]
     have e1 : a.eval (.tmp (3 * j' + 4)) = .pointer (some ⟨g, 0, none⟩) := hv
     simp [e1]
    ·exact keep (by omega) (by omega) (I.mf j' q' hq' (or_ne hx (by omega)))
   ·rw [or_f (by omega)] at hx
    exact ⟨(I.no hx).1, fun j hj => by rw [or_f (by omega)]; exact (I.no hx).2 j hj⟩
   ·rw [or_f (by omega)] at hx
    rw [hsame (fun j _ => by omega)]; exact I.hp hx
  ·obtain ⟨ty, pos, af, parts, h1, h2, h3⟩ := h.bd j q hq
   rw [ho] at h1; injection h1 with h1; subst h1
   have hv := h3 a w g (I.mf j q hq (dep h2 rfl))
   refine ⟨rfl, qf9 g q, w, .inl (by
    show (do let z ← Instr.build ts (parts.map fun (i, x) => (i, a.eval x)); pure (Next.value z) : Sem Next).run P w = _
    simp only [hv, Sem.run_bind, Sem.run_pure, Result.andThen_ok]), ?_⟩
   refine ⟨by simpa [Act.put] using hsz, I.df, keep (by omega) (by omega) I.p0, fun hx => keep (by omega) (by omega) (I.m0 (or_ne hx (by omega))), fun j hj hx => keep (by omega) (by omega) (I.mv j hj (or_ne hx (by omega))), fun j q hq hx => keep (by omega) (by omega) (I.mf j q hq (or_ne hx (by omega))),
    fun j' q' hq' hx => ?_, fun hx => keep (by omega) (by omega) (I.fn (or_ne hx (by omega))), fun hx => keep (by omega) (by omega) (I.rs (or_ne hx (by omega))), fun hx => ?_, fun hx => ?_⟩
   ·by_cases e : j' = j
    ·subst e
     rw [hq] at hq'; injection hq' with hq'; subst hq'
     exact got (by omega)
    ·exact keep (by omega) (by omega) (I.bd j' q' hq' (or_ne hx (by omega)))
   ·rw [or_f (by omega)] at hx
    exact ⟨(I.no hx).1, fun j hj => by rw [or_f (by omega)]; exact (I.no hx).2 j hj⟩
   ·rw [or_f (by omega)] at hx
    rw [hsame (fun j _ => by omega)]; exact I.hp hx
  ·obtain ⟨ty, pos, af, h1, h2, h3⟩ := h.ins j q hq
   rw [ho] at h1; injection h1 with h1; subst h1
   have hx0 := dep h2 rfl
   have hv := I.bd j q hq (dep h3 rfl)
   have hmp := I.m0 hx0
   obtain ⟨es, clock, rfl, hst, hpm⟩ := I.hp hx0
   obtain ⟨kt, kd, ks, kb, kz, kτ, ke⟩ := kj
   simp only at hj3; subst hj3
   have hkey : ∀ {y : List UInt8}, RdV (fun _ => False) (w0.alloc (.map es clock)) .str y (.string ⟨⟨y⟩⟩) := ⟨_, rfl, rfl⟩
   have hks : ∀ e ∈ es.toList, ∃ z, RdV (fun _ => False) (w0.alloc (.map es clock)) .str z e.key := by
    intro e he
    have h4 := hpm.mem_iff.1 (List.mem_map.2 ⟨e, he, rfl⟩)
    obtain ⟨j', _, h5⟩ := List.mem_map.1 h4
    injection h5 with h5 _
    exact ⟨_, _, rfl, h5.symm⟩
   have huk := qrJ hΓ hj hj2 (hkey (y := q.1))
   rcases qig hΓ hj hj2 (hkey (y := q.1)) es.toList hks with ⟨f1, f2⟩ | ⟨j2, e, f1, f2, f3⟩
   ·have hrun := (qkG (z := qf9 g q) hm (qnQ w0 (.map es clock)) huk).1 f1
    rw [qp7] at hrun
    refine ⟨rfl, undef, w0.alloc (.map (es.push { key := .string ⟨⟨q.1⟩⟩, val := qf9 g q, born := clock }) (clock + 1)), .inr ⟨?_, rfl⟩, ?_⟩
    ·show (do Instr.mapUpdate tm (a.eval (.tmp 3)) (.string ⟨⟨q.1⟩⟩) (a.eval (.tmp (3 * j + 6))); pure Next.skip : Sem Next).run P _ = _
     have e1 : a.eval (.tmp 3) = .map (some w0.heap.size) := hmp
     have e2 : a.eval (.tmp (3 * j + 6)) = qf9 g q := hv
     rw [e1, e2]
     simp only [hrun, Sem.run_bind, Sem.run_pure, Result.andThen_ok]
    ·refine ⟨hsz, I.df, I.p0, fun _ => hmp, fun j hj hx => I.mv j hj (or_ne hx (by omega)), fun j q hq hx => I.mf j q hq (or_ne hx (by omega)), fun j q hq hx => I.bd j q hq (or_ne hx (by omega)), fun hx => I.fn (or_ne hx (by omega)), fun hx => I.rs (or_ne hx (by omega)),
      fun hx => (by rw [or_f (by omega)] at hx; rw [hx0] at hx; cases hx), fun _ => ⟨_, _, rfl, MapKept.stamped_push hst f2, ?_⟩⟩
     have hpf := qka (p := fun k => X (4 * k + 4)) (q := fun k => Nat.beq (4 * k + 4) (4 * j + 4) || X (4 * k + 4)) (j := j) List.nodup_range (List.mem_range.2 hjl) hX (fun k => by
      by_cases e : k = j
      ·subst e; simp
      ·rw [bq e, bq (by omega)])
     refine List.Perm.trans ?_ (hpf.map _).symm
     rw [List.map_cons, Array.toList_push, List.map_append]
     refine (List.perm_append_singleton _ _).trans ?_
     have : l.getD j ([], [], 0) = q := by rw [List.getD_eq_getElem?_getD, hq]; rfl
     rw [this]
     exact hpm.cons _
   ·exfalso
    have h4 := hpm.mem_iff.1 (List.mem_map.2 ⟨e, List.mem_of_getElem? f2, rfl⟩)
    obtain ⟨j', h6, h5⟩ := List.mem_map.1 h4
    injection h5 with h5 _
    obtain ⟨h7, h8⟩ := List.mem_filter.1 h6
    obtain ⟨q', hq'⟩ : ∃ q', l[j']? = some q' := ⟨_, List.getElem?_eq_getElem (List.mem_range.1 h7)⟩
    rw [List.getD_eq_getElem?_getD, hq', f3] at h5
    simp only [Option.getD_some, Value.string.injEq, ByteArray.mk.injEq, Array.mk.injEq] at h5
    have := qlU hk hq' hq h5
    subst this
    rw [hX] at h8; cases h8
 ·obtain ⟨ty, pos, af, h1, h2⟩ := h.fin
  rw [ho] at h1; injection h1 with h1; subst h1
  refine ⟨rfl, _, w, .inl rfl, ?_⟩
  refine ⟨by simpa [Act.put] using hsz, I.df, keep (by omega) (by omega) I.p0, fun hx => keep (by omega) (by omega) (I.m0 (or_ne hx (by omega))), fun j hj hx => keep (by omega) (by omega) (I.mv j hj (or_ne hx (by omega))), fun j q hq hx => ?_, fun j q hq hx => ?_,
   fun hx => by rw [got (by omega)]; exact I.m0 (dep h2 rfl), fun hx => keep (by omega) (by omega) (I.rs (or_ne hx (by omega))), fun hx => ?_, fun hx => ?_⟩
  ·have := (List.getElem?_eq_some_iff.1 hq).1
   exact keep (by omega) (by omega) (I.mf j q hq (or_ne hx (by omega)))
  ·have := (List.getElem?_eq_some_iff.1 hq).1
   exact keep (by omega) (by omega) (I.bd j q hq (or_ne hx (by omega)))
  ·rw [or_f (by omega)] at hx
   exact ⟨(I.no hx).1, fun j hj => by rw [or_f (by omega)]; exact (I.no hx).2 j hj⟩
  ·rw [or_f (by omega)] at hx
   rw [hsame (fun j _ => by omega)]; exact I.hp hx
 ·obtain ⟨ty, pos, af, h1, h2⟩ := h.res
  rw [ho] at h1; injection h1 with h1; subst h1
  refine ⟨rfl, _, w, .inl rfl, ?_⟩
  refine ⟨by simpa [Act.put] using hsz, I.df, keep (by omega) (by omega) I.p0, fun hx => keep (by omega) (by omega) (I.m0 (or_ne hx (by omega))), fun j hj hx => keep (by omega) (by omega) (I.mv j hj (or_ne hx (by omega))), fun j q hq hx => ?_, fun j q hq hx => ?_,
   fun hx => keep (by omega) (by omega) (I.fn (or_ne hx (by omega))), fun hx => by rw [got (by omega)]; exact I.fn (dep h2 rfl), fun hx => ?_, fun hx => ?_⟩
  ·have := (List.getElem?_eq_some_iff.1 hq).1
   exact keep (by omega) (by omega) (I.mf j q hq (or_ne hx (by omega)))
  ·have := (List.getElem?_eq_some_iff.1 hq).1
   exact keep (by omega) (by omega) (I.bd j q hq (or_ne hx (by omega)))
  ·rw [or_f (by omega)] at hx
   exact ⟨(I.no hx).1, fun j hj => by rw [or_f (by omega)]; exact (I.no hx).2 j hj⟩
  ·rw [or_f (by omega)] at hx
   rw [hsame (fun j _ => by omega)]; exact I.hp hx
theorem qoD {f : FuncId} {fn : Func} {id0 id1 : Nat} {o0 : Oper} {N tm ts : Nat} {l : List (List UInt8 × List Int × Nat)} (hf : P.funcs[f]? = some fn) (hb : fn.body = some (.seq (.region id0 #[o0] false) (.seq (.region id1 ops false) .ret)))
  (hres : fn.results = #[.tmp 2]) (hN : fn.ntmps = N) (ho : o0.op = .assign (.const (.map none)) ∧ o0.dst = some 2 ∧ o0.guard = none) (h : qm5 P ops N tm ts l) (hk : qeR l = true)
  {Γ : List TI} (hΓ : Tys P Γ) {kj : TI} {et : TypeId} (hj : kj.ok P) (hj2 : keyOk Γ kj = true) (hj3 : kj.τ = .str) (hm : P.underlying tm = some (.map kj.t et)) (g : Nat) (w : World) :
  Calls P f #[.pointer (some ⟨g, 0, none⟩)] w fun en w' => ∃ es clock, en = .returned (.map (some w.heap.size)) ∧ w' = w.alloc (.map es clock) ∧ MapKept.Stamped es clock ∧ (es.toList.map fun e => (e.key, e.val)).Perm (l.map (qlT g)) := by
 have hsl := h.slots
 refine calls_of_wp hf hb ?_
 rw [hN]
 generalize ha0 : ({ tmps := #[.pointer (some ⟨g, 0, none⟩)] ++ Array.replicate (N - (#[Value.pointer (some ⟨g, 0, none⟩)] : Array Value).size) undef, defers := [] } : Act) = a0
 have hsz : a0.tmps.size = N := by subst ha0; simp; omega
 have hp0 : a0.tmps.getD 0 undef = .pointer (some ⟨g, 0, none⟩) := by subst ha0; simp [Array.getD_eq_getD_getElem?, Array.getElem?_append_left]
 have hdf : a0.defers = [] := by subst ha0; rfl
 obtain ⟨dst, op, ty, pos, af, gd⟩ := o0
 obtain ⟨ho1, ho2, ho3⟩ := ho
 simp only at ho1 ho2 ho3
 subst ho1 ho2 ho3
 refine wp_seq (Code.wp_mono (Q := fun e a w' => e = .normal ∧ a = a0.put (some 2) (.map none) ∧ w' = w) ?_ ?_)
 ·rintro e a w' ⟨rfl, rfl, rfl⟩
  refine wp_seq (Code.wp_mono (Q := fun e a w'' => e = .normal ∧ a.defers = [] ∧ a.tmps.getD 2 undef = .map (some w'.heap.size) ∧ ∃ es clock, w'' = w'.alloc (.map es clock) ∧ MapKept.Stamped es clock ∧ (es.toList.map fun e => (e.key, e.val)).Perm (l.map (qlT g))) ?_ ?_)
  ·rintro e a w'' ⟨rfl, h1, h2, h3⟩
   refine wp_ret ⟨h1, .map (some w'.heap.size), ?_, ?_⟩
   ·unfold results
    rw [hres]
    have h2' : a.tmps.getD 2 undef = .map (some w'.heap.size) := h2
    show (do let vs ← (#[ResultVar.tmp 2]).mapM (m := Sem) (fun | .tmp t => pure (a.tmps.getD t undef) | .cell b t => do loadVar t (← asAddr (a.tmps.getD b undef))); pure (if h : vs.size = 1 then vs[0] else .tuple vs) : Sem Value).run P w'' = _
    rw [Sem.run_bind, Array.mapM_eq_mapM_toList, Sem.run_map]
    have h2'' : a.tmps[2]?.getD undef = .map (some w'.heap.size) := by rw [← Array.getD_eq_getD_getElem?]; exact h2
    simp [h2'', Result.andThen]
   ·obtain ⟨es, clock, h3, h4, h5⟩ := h3
    exact ⟨es, clock, rfl, h3, h4, h5⟩
  ·refine wp_region_list (qj9 (DispI l N g w') h.back (fun X a w i o q1 q2 q3 q4 => qp8 h hk hΓ hj hj2 hj3 hm q1 q2 q3 q4) (fun X a w hall I => ?_) _ 0 _ _ (fun j => by simp) ?_)
   ·have h0 := hall 0 (by rw [h.size]; omega)
    obtain ⟨es, clock, q1, q2, q3⟩ := I.hp h0
    refine ⟨rfl, I.df, I.rs (hall _ (by rw [h.size]; omega)), es, clock, q1, q2, q3.trans ?_⟩
    rw [List.filter_eq_self.2 (fun j hj => hall _ (by rw [h.size]; have := List.mem_range.1 hj; omega)), qlL (qlT g) ([], [], 0) l]
   ·have hno : ∀ i, decide (i < 0) = false := fun i => by simp
    have hno' : ∀ {i : Nat} {A : Prop}, decide (i < 0) = true → A := fun h => by rw [hno] at h; cases h
    exact ⟨by simpa [Act.put] using hsz, hdf, by rw [qis _ _ _ (by omega), if_neg (by omega)]; exact hp0, fun h => hno' h, fun j hj h => hno' h, fun j q hq h => hno' h, fun j q hq h => hno' h, fun h => hno' h, fun h => hno' h,
     fun _ => ⟨rfl, fun j hj => hno _⟩, fun h => hno' h⟩
 ·refine wp_region_list ?_
  exact .inl ⟨rfl, rfl, rfl⟩
def qdY (f : FuncId) (vars : List (Nat × TypeId × List Sh1)) (arrs : List (Nat × ObSh)) (l : List (List UInt8 × List Int × Nat)) : Fun :=
 { f := f, np := 1, nr := 1, ji := { regs := [(0, .one (.ptr 0 0))], vars := vars, arrs := arrs }, jo := { regs := [(0, .one (.disp l 0))], vars := vars, arrs := arrs }, tw := fun x => some x }
theorem qsm {f : FuncId} {vars : List (Nat × TypeId × List Sh1)} {arrs : List (Nat × ObSh)} {l : List (List UInt8 × List Int × Nat)} (hok : FnOk P f)
  (hrun : ∀ (g : Nat) (w : World), Calls P f #[.pointer (some ⟨g, 0, none⟩)] w fun en w' => ∃ es clock, en = .returned (.map (some w.heap.size)) ∧ w' = w.alloc (.map es clock) ∧ MapKept.Stamped es clock ∧ (es.toList.map fun e => (e.key, e.val)).Perm (l.map (qlT g))) : FunOk P (qdY f vars arrs l) := by
 refine ⟨hok, fun x y hxy F w ρ vs hl hm hd => ?_⟩
 have hxy' : some x = some y := hxy
 injection hxy' with hxy'; subst hxy'
 obtain ⟨u, rfl⟩ := qp6 hl
 have hu : Den P F w ρ (.ptr 0 0) u := hd 0 u rfl
 have hnm : ∀ b v, ρ b = some v → b ∈ (qdY f vars arrs l).ji.names := by
  intro b v hv
  by_cases hb : b ∈ (qdY f vars arrs l).ji.names
  ·exact hb
  ·have hd0 : ((qdY f vars arrs l).ji.put0 x).d b = false := Bool.eq_false_iff.2 fun hh => hb (qao.1 (show memN (qdY f vars arrs l).ji.names b = true from hh))
   rw [hm.dom b hd0] at hv; cases hv
 have hnk : ∀ b g, ρ.k b g → b ∈ (qdY f vars arrs l).ji.names := by
  intro b g hk
  by_cases hb : b ∈ (qdY f vars arrs l).ji.names
  ·exact hb
  ·have hd0 : ((qdY f vars arrs l).ji.put0 x).d b = false := Bool.eq_false_iff.2 fun hh => hb (qao.1 (show memN (qdY f vars arrs l).ji.names b = true from hh))
   exact absurd hk (hm.kap.k4 b g hd0)
 cases hu with
 | ptr hρ =>
  rename_i g
  have hinit : Rel' P w ⟨InBlk ρ (qdY f vars arrs l).ji.names, fun _ => none⟩ 0 F ρ { (qdY f vars arrs l).ji.put0 x with r := fun _ => .any } { tmps := #[], defers := [] } w :=
   ⟨Fr.refl w _, hm.congr rfl rfl rfl rfl, fun b v g hp hv hg => .inl (.inl ⟨b, v, hnm b v hv, hv, hg⟩), fun t => .any _, rfl, rfl, fun b v h => (by cases h), fun b g hk => .inl (.inr ⟨b, hnk b g hk, hk⟩)⟩
  refine (hrun g w).mono ?_
  rintro en w' ⟨es, clock, rfl, rfl, h1, h2⟩
  have hfr : Fr w (fun _ => False) (w.alloc (.map es clock)) := ⟨rfl, rfl, rfl, by simp, fun g hg _ => Below.heap_alloc w _ g hg⟩
  have hF := hm.fb
  have hg := hinit.grow (F' := fun b => F b ∨ b = w.heap.size) hfr (fun _ h => .inl h) (fun b hb => hb.imp (fun h => h) fun e => by rw [e]; exact Nat.le_refl _)
   (fun b hb => by
    have hz : (w.alloc (.map es clock)).heap.size = w.heap.size + 1 := by simp
    rcases hb with hb | rfl
    ·have := hF b hb; omega
    ·omega)
  exact ⟨_, _, ρ, rfl, hg.fr, fun _ h => .inl h, fun b hb => hb.elim .inl fun e => .inr (.inr (by rw [e]; exact Nat.le_refl _)), hg.mem.congr rfl rfl rfl rfl, fun _ _ _ _ h => h, fun b v k _ hv hg => .inl (.inl ⟨b, v, hnm b v hv, hv, hg⟩), fun b g hk => .inl (.inr ⟨b, hnk b g hk, hk⟩),
   .disp hρ (.inr rfl) (qnQ w _) h1 h2⟩
theorem qbG {af : Array Edge} {k : Nat} (h : af.any (fun e => Region.binds .any e && Nat.beq e.on k) = true) : Dep af k := by
 obtain ⟨e, he, hb⟩ := Array.any_eq_true'.1 h
 rw [Bool.and_eq_true] at hb
 exact ⟨e, he, hb.1, Nat.eq_of_beq_eq_true hb.2⟩
theorem qp9 {Γ : List TI} (hΓ : Tys P Γ) {i : TI} {fs : Array Field} {pl : List (Nat × Nat)} {parts : Array (Nat × Value)} {cells : Array Value} (hi : i.ok P) (hd : i.desc = .struct fs) (hpl : places Γ fs.toList = some pl)
  (hf : Instr.fill (fun i => pl[i]?) i.zero.cells parts.toList = some cells) (w : World) : (Instr.build i.t parts).run P w = .ok (.agg cells) w := by
 have hu := hi.und
 rw [hd] at hu
 have hplr : (fs.mapM (m := Sem) fun f => do pure (f.offset, ← sizeOf f.type)).run P w = .ok pl.toArray w := by
  rw [Array.mapM_eq_mapM_toList, Sem.run_map]
  have := qh3 (w := w) hΓ hpl
  rw [this]; rfl
 have hfe : (fun (i : Nat) => pl.toArray[i]?) = (fun (i : Nat) => pl[i]?) := by funext i; simp
 simp only [Instr.build, run_zeroValue' hi, Sem.run_bind, Result.andThen_ok, run_underlying hu, hplr, hfe, hf]
 rfl
theorem qh8 {Γ : List TI} (hΓ : Tys P Γ) {i : TI} {fs : Array Field} (hi : i.ok P) (hd : i.desc = .struct fs) (hpl : places Γ fs.toList = some [(0, 1), (1, 1), (2, 1), (3, 1)]) (hz : i.zero.cells = #[.int .i64 0, .int .i64 0, .int .i64 0, .nilFunc]) {r m n : Int} {t : Nat} {k : List UInt8} {f : FuncId}
  (a : Act) (w : World) (g : Nat) (h : a.tmps.getD t undef = .func (.func f) #[.pointer (some ⟨g, 0, none⟩)] #[]) :
  (Instr.build i.t ((#[(0, .const (.int .i64 r)), (1, .const (.int .i64 m)), (2, .const (.int .i64 n)), (3, .tmp t)] : Array (Nat × Operand)).map fun (i, x) => (i, a.eval x))).run P w = .ok (qf9 g (k, [r, m, n], f)) w := by
 have he : a.eval (.tmp t) = .func (.func f) #[.pointer (some ⟨g, 0, none⟩)] #[] := h
 simp only [List.map_toArray, List.map_cons, List.map_nil, he]
 exact qp9 hΓ hi hd hpl (by rw [hz]; rfl) w
theorem qsn (h : qiI ops.toList 0 = true) : ∀ i o, ops[i]? = some o → ∀ e ∈ o.after, Region.binds .any e = true → e.on < i := by
 intro i o ho e he hb
 have := qf0 ops.toList 0 h i o (by simpa using ho) e he hb
 omega
def qrY : Code → Array Oper
 | .region _ ops _ => ops
 | _ => #[]
def seqL : Code → Code
 | .seq c _ => c
 | c => c
def seqR : Code → Code
 | .seq _ c => c
 | c => c
def oDum : Oper := ⟨none, .assign (.const .nilIface), 0, "", #[], none⟩
end
end Go.Sq
