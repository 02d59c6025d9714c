/- The engine, part J: literals of structs and slices, comparing structs and strings. No condition. -/
import Derived.Test.YtdmfhnpibllfeaaSpI
namespace Go.Sp
open Go Go.RowKit

def placesT (P : Program) (t : TypeId) (pl : List (Nat × Nat)) : Prop := ∃ fs, P.underlying t = some (.struct fs) ∧ fs.toList.map (fun f => (f.offset, (P.info? f.type).map (·.size))) = pl.map (fun q => (q.1, some q.2))
def setAll : List SV → Nat → List SV → List SV
  | cs, _, [] => cs
  | cs, o, s :: r => setAll (cs.set o s) (o + 1) r
def fillS (pl : List (Nat × Nat)) : List SV → List (Nat × SV) → Option (List SV)
  | cs, [] => some cs
  | cs, (i, s) :: rest => match pl[i]? with
    | none => none
    | some (off, size) => bif Nat.beq (cellsOfS s).length size && Nat.ble (off + size) cs.length then fillS pl (setAll cs off (cellsOfS s)) rest else none
def partB : SV → Bool
  | .agg l => allOne l
  | s => oneS s

theorem setAll_spec : ∀ (l : List SV) (cs : List SV) (o : Nat), o + l.length ≤ cs.length → (setAll cs o l).length = cs.length ∧ ∀ j, (setAll cs o l)[j]? = if o ≤ j ∧ j < o + l.length then l[j - o]? else cs[j]?
  | [], cs, o, _ => ⟨rfl, fun j => by rw [if_neg (by simp)]; rfl⟩
  | s :: r, cs, o, h => by
    simp only [List.length_cons] at h
    obtain ⟨h1, h2⟩ := setAll_spec r (cs.set o s) (o + 1) (by simp; omega)
    refine ⟨by simp only [setAll, h1, List.length_set], fun j => ?_⟩
    simp only [setAll, h2, List.length_cons]
    by_cases c1 : j = o
    · subst c1
      rw [if_neg (by omega), if_pos (by omega), List.getElem?_set_self (by omega)]; simp
    · by_cases c2 : o + 1 ≤ j ∧ j < o + 1 + r.length
      · rw [if_pos c2, if_pos (by omega), show j - o = (j - (o + 1)) + 1 by omega]; simp
      · rw [if_neg c2, if_neg (by omega), List.getElem?_set_ne (by omega)]

/-- Cells and what they hold. -/
def DenCs (F : Nat → Prop) (w : World) (ρ : Env) (cs : List SV) (vs : Nat → Option Value) (n : Nat) : Prop :=
  cs.length = n ∧ ∀ (j : Nat) (s : SV) (x : Value), cs[j]? = some s → vs j = some x → Den F w ρ s x ∧ x.oneCell' = true

theorem partOk {F : Nat → Prop} {w : World} {ρ : Env} {s : SV} {v : Value} (h : Den F w ρ s v) (hone : ∀ b v, ρ b = some v → v.oneCell' = true) (hp : partB s = true) : DenCs F w ρ (cellsOfS s) (fun j => v.cells[j]?) v.cells.size := by
  have sc : oneS s = true → cellsOfS s = [s] → DenCs F w ρ (cellsOfS s) (fun j => v.cells[j]?) v.cells.size := by
    intro ho hc
    have h1 := oneS_spec h hone ho
    rw [hc, cells_one h1]
    refine ⟨rfl, fun j s' x hs hx => ?_⟩
    cases j with
    | zero => simp at hs hx; subst hs hx; exact ⟨h, h1⟩
    | succ j => simp at hs
  cases s with
  | agg l =>
    cases h with
    | agg hl hi =>
      refine ⟨by simpa [cellsOfS, Value.cells] using hl, fun j s x hs hx => ?_⟩
      have hx' := by simpa [Value.cells] using hx
      have hd := hi j s x hs hx'
      exact ⟨hd, oneS_spec hd hone (by simp only [partB, allOne, List.all_eq_true] at hp; exact hp s (List.mem_of_getElem? hs))⟩
  | _ => exact sc hp rfl

theorem fillS_spec {F : Nat → Prop} {w : World} {ρ : Env} (hone : ∀ b v, ρ b = some v → v.oneCell' = true) (place : Nat → Option (Nat × Nat)) (pl : List (Nat × Nat)) (hpl : ∀ i, place i = pl[i]?) :
    ∀ (parts : List (Nat × SV)) (vparts : List (Nat × Value)) (cs cs' : List SV) (arr : Array Value), DenCs F w ρ cs (fun j => arr[j]?) arr.size →
      parts.length = vparts.length → (∀ (j : Nat) (p : Nat × SV) (q : Nat × Value), parts[j]? = some p → vparts[j]? = some q → p.1 = q.1 ∧ Den F w ρ p.2 q.2 ∧ partB p.2 = true) → fillS pl cs parts = some cs' →
      ∃ arr', Instr.fill place arr vparts = some arr' ∧ DenCs F w ρ cs' (fun j => arr'[j]?) arr'.size
  | [], [], cs, cs', arr, h, _, _, hf => by
    simp only [fillS, Option.some.injEq] at hf; subst hf
    exact ⟨arr, rfl, h⟩
  | (i, s) :: parts, (i', v) :: vparts, cs, cs', arr, h, hl, hp, hf => by
    obtain ⟨e1, e2, e3⟩ := hp 0 _ _ rfl rfl
    simp only at e1 e2 e3
    subst e1
    simp only [fillS] at hf
    cases hq : pl[i]? with
    | none => rw [hq] at hf; cases hf
    | some q =>
      obtain ⟨off, size⟩ := q
      rw [hq] at hf
      simp only [] at hf
      cases hb : (Nat.beq (cellsOfS s).length size && Nat.ble (off + size) cs.length) with
      | false => rw [hb] at hf; cases hf
      | true =>
        rw [hb] at hf
        simp only [cond_true] at hf
        simp only [Bool.and_eq_true] at hb
        have hb1 := Nat.eq_of_beq_eq_true hb.1
        have hb2 := Nat.le_of_ble_eq_true hb.2
        have hpo := partOk e2 hone e3
        have hvs : v.cells.size = size := by rw [← hb1]; exact hpo.1.symm
        obtain ⟨arr1, f1, f2, f3⟩ := fill_cons (place := place) (cells := arr) (i := i) (v := v) (rest := vparts) (off := off) (size := size) (by rw [hpl]; exact hq) hvs (by rw [← h.1]; exact hb2)
        obtain ⟨g1, g2⟩ := setAll_spec (cellsOfS s) cs off (by omega)
        have hd1 : DenCs F w ρ (setAll cs off (cellsOfS s)) (fun j => arr1[j]?) arr1.size := by
          refine ⟨by rw [g1, f2]; exact h.1, fun j s' x hs hx => ?_⟩
          rw [g2] at hs
          simp only [f3] at hx
          by_cases c : off ≤ j ∧ j < off + size
          · rw [if_pos (by omega)] at hs
            rw [if_pos c] at hx
            exact hpo.2 _ s' x hs hx
          · rw [if_neg (by omega)] at hs
            rw [if_neg c] at hx
            exact h.2 j s' x hs hx
        obtain ⟨arr', k1, k2⟩ := fillS_spec hone place pl hpl parts vparts _ cs' arr1 hd1 (by simpa using hl) (fun j p q a b => hp (j + 1) p q (by simpa using a) (by simpa using b)) hf
        exact ⟨arr', f1.trans k1, k2⟩
  | [], _ :: _, _, _, _, _, hl, _, _ => by simp at hl
  | _ :: _, [], _, _, _, _, hl, _, _ => by simp at hl

section
variable {P : Program} {w0 : World} {M : Mod} {N : Nat} {F0 : Nat → Prop} {ops : Array Oper}
variable {F : Nat → Prop} {ρ : Env} {st : St} {a : Act} {w : World}
variable {d : Nat} {x y z : Operand} {ty ty' : TypeId} {pos : String} {af : Array Edge}

theorem run_places : ∀ (fs : List Field) (pl : List (Nat × Nat)), fs.map (fun f => (f.offset, (P.info? f.type).map (·.size))) = pl.map (fun q => (q.1, some q.2)) →
    (fs.mapM (m := Sem) fun f => do pure (f.offset, ← sizeOf f.type)).run P w = .ok pl w
  | [], [], _ => rfl
  | f :: fs, (o, k) :: pl, h => by
    simp only [List.map_cons, List.cons.injEq, Prod.mk.injEq] at h
    rw [List.mapM_cons, Sem.run_bind]
    have hs : (sizeOf f.type).run P w = .ok k w := run_sizeOf h.1.2
    simp only [Sem.run_bind, hs, Result.andThen_ok, Sem.run_pure, run_places fs pl h.2, h.1.1]
  | [], _ :: _, h => by simp at h
  | _ :: _, [], h => by simp at h

theorem zip_get {α β : Type} : ∀ (l : List α) (m : List β) (j : Nat) (p : α × β), (l.zip m)[j]? = some p → l[j]? = some p.1 ∧ m[j]? = some p.2 := by
  intro l m j p h
  rw [List.getElem?_zip_eq_some] at h
  exact h

theorem rd_build {pl : List (Nat × Nat)} {parts : List (Nat × Operand)} {ss : List SV} {zs cs : List SV} {zv : Array Value} (hd : d < N) (hT : placesT P ty' pl) (hz : zeroT P ty' (.agg zv)) (hzs : ZeroS zs zv.toList) :
    RTD P w0 M N F0 ops ⟨some d, .build ty' parts.toArray, ty, pos, af, none⟩ (fun st => EvL st (parts.map (·.2)) ss ∧ fillS pl zs ((parts.map (·.1)).zip ss) = some cs ∧ ss.all partB = true) (evKeys (parts.map (·.2)) ++ ([] ++ [])) [.r d (.agg cs)] := by
  refine ⟨RT.value rfl rfl hd ?_, (Dep.evL _ _).and ((Dep.pure _).and (Dep.pure _))⟩
  rintro st ⟨h1, h2, h3⟩ F ρ a w h
  obtain ⟨fs, t1, t2⟩ := hT
  obtain ⟨z1, z2⟩ := hzs.spec (F := F) (w := w) (ρ := ρ)
  have hlen := h1.length
  simp only [List.length_map] at hlen
  have hzd : DenCs F w ρ zs (fun j => zv[j]?) zv.size := ⟨by simpa using z1, fun j s x hs hx => z2 j s x hs (by simpa using hx)⟩
  obtain ⟨arr', k1, k2⟩ := fillS_spec h.mem.one (pl[·]?) pl (fun _ => rfl) ((parts.map (·.1)).zip ss) (parts.map fun p => (p.1, a.eval p.2)) zs cs zv hzd (by simp; omega) (by
    intro j p q hp hq
    obtain ⟨p1, p2⟩ := zip_get _ _ j p hp
    rw [List.getElem?_map] at p1 hq
    cases hx : parts[j]? with
    | none => rw [hx] at hq; cases hq
    | some r =>
      rw [hx] at p1 hq
      simp only [Option.map_some, Option.some.injEq] at p1 hq
      subst hq
      refine ⟨p1.symm, h.eval (h1.at_ j r.2 p.2 (by simp [hx]) p2), ?_⟩
      simp only [List.all_eq_true] at h3
      exact h3 _ (List.mem_of_getElem? p2)) h2
  refine ⟨.agg arr', ?_, ?_⟩
  · have hpl : (fs.mapM (m := Sem) fun f => do pure (f.offset, ← sizeOf f.type)).run P w = .ok pl.toArray w := by
      rw [Array.mapM_eq_mapM_toList, Sem.run_map]
      have := run_places (P := P) (w := w) fs.toList pl t2
      rw [this]; rfl
    simp only [execOp, Instr.build, run_zeroValue hz, Sem.run_bind, Result.andThen_ok, run_underlying t1, hpl, List.map_toArray, Value.cells]
    have hfe : (fun (i : Nat) => pl.toArray[i]?) = (fun (i : Nat) => pl[i]?) := by funext i; simp
    rw [hfe, k1]
    rfl
  · have := Den.agg (F := F) (w := w) (ρ := ρ) (ss := cs) (vs := arr'.toList) (by simpa using k2.1) (fun j s x hs hx => (k2.2 j s x hs (by simpa using hx)).1)
    simpa using this

/-- A slice's literal: in order, each element written out. -/
def seqParts : Nat → List Operand → List (Nat × Operand)
  | _, [] => []
  | i, x :: r => (i, x) :: seqParts (i + 1) r

theorem fill_seq (k : Nat) : ∀ (vs : List Value) (i : Nat) (arr : Array Value), (∀ v ∈ vs, v.cells.size = k) → (i + vs.length) * k ≤ arr.size →
    ∃ arr', Instr.fill (fun i => some (i * k, k)) arr ((List.range' i vs.length).zip vs) = some arr' ∧ arr'.size = arr.size ∧
      (∀ j, j < i * k → arr'[j]? = arr[j]?) ∧ ∀ m j v, vs[m]? = some v → j < k → arr'[(i + m) * k + j]? = v.cells[j]?
  | [], i, arr, _, _ => ⟨arr, rfl, rfl, fun _ _ => rfl, fun m j v h => by simp at h⟩
  | v :: vs, i, arr, hk, hs => by
    have hv : v.cells.size = k := hk v (by simp)
    simp only [List.length_cons] at hs ⊢
    have hik : i * k + k ≤ arr.size := by
      have : (i + 1) * k ≤ (i + (vs.length + 1)) * k := Nat.mul_le_mul_right k (by omega)
      rw [Nat.add_mul, Nat.one_mul] at this; omega
    obtain ⟨arr1, f1, f2, f3⟩ := fill_cons (place := fun i => some (i * k, k)) (cells := arr) (i := i) (v := v) (rest := (List.range' (i + 1) vs.length).zip vs) (off := i * k) (size := k) rfl hv hik
    obtain ⟨arr', g1, g2, g3, g4⟩ := fill_seq k vs (i + 1) arr1 (fun v hv => hk v (by simp [hv])) (by rw [f2]; rwa [show i + 1 + vs.length = i + (vs.length + 1) by omega])
    have hi1 : (i + 1) * k = i * k + k := by rw [Nat.add_mul, Nat.one_mul]
    refine ⟨arr', ?_, g2.trans f2, fun j hj => ?_, fun m j u hu hj => ?_⟩
    · rw [List.range'_succ, List.zip_cons_cons]; exact f1.trans g1
    · rw [g3 j (by omega), f3, if_neg (by omega)]
    · cases m with
      | zero =>
        simp at hu; subst hu
        rw [Nat.add_zero, g3 _ (by omega), f3, if_pos (by omega)]; congr 1; omega
      | succ m =>
        have := g4 m j u (by simpa using hu) hj
        rwa [show i + 1 + m = i + (m + 1) by omega] at this

theorem range_zip (xs : List Operand) (f : Operand → Value) : ∀ i, (seqParts i xs).map (fun p => (p.1, f p.2)) = (List.range' i xs.length).zip (xs.map f) := by
  induction xs with
  | nil => intro i; rfl
  | cons x r ih => intro i; simp only [seqParts, List.map_cons, List.length_cons, List.range'_succ, List.zip_cons_cons, ih]

/-- The world with one new block that is only read. -/
theorem Rel'.newRead (h : Rel' w0 M N F ρ st a w) (o : Obj) : Rel' w0 M N (fun g => F g ∨ g = w.heap.size) ρ st a (w.alloc o) := by
  refine h.called ⟨rfl, rfl, rfl, by simp, fun g hg _ => Below.heap_alloc w o g hg⟩ (fun g hg => .inl hg) (fun g hg => hg.elim .inl fun e => .inr (by omega)) (fun g hg => ?_)
  rcases hg with hg | rfl
  · have := h.mem.fb g hg; simp; omega
  · simp

theorem RT.stepF {o : Oper} {pre : St → Prop} {wr : List Wr} (hg : o.guard = none)
    (f : ∀ st, pre st → ∀ F ρ a w, Rel' w0 M N F ρ st a w → ∃ v F' w', (execOp a.eval o).run P w = .ok (.value v) w' ∧ Rel' w0 M N F' ρ (st.app wr) (a.put o.dst v) w' ∧ (∀ g, F g → F' g) ∧ (∀ g, F' g → F g ∨ w.heap.size ≤ g)) :
    RT P w0 M N F0 ops o pre wr := by
  intro st hp a w ⟨F, ρ, h, hF⟩
  rw [if_pos (wanted_none hg)]
  obtain ⟨v, F', w', hr, hk, h1, h2⟩ := f st hp F ρ a w h
  unfold Oper.wp
  rw [hr]
  exact ⟨F', ρ, hk, fun g hg => h1 g (hF.1 g hg), fun g hg => (h2 g hg).elim (fun hg => hF.2 g hg) fun hge => .inr (.inr (Nat.le_trans h.fr.size hge))⟩

theorem rd_buildSlice {k e : Nat} {xs : List Operand} {ss : List SV} {g : Nat → Nat → SV} {zv : Value} (hd : d < N) (hT : elemT P ty' e k) (hz : zeroT P e zv) (hzk : zv.cells.size = k) (hk : 0 < k) (hlen : Nat.ble (xs.length * k) 16777216 = true) :
    RTD P w0 M N F0 ops ⟨some d, .buildSlice ty' xs.length (seqParts 0 xs).toArray, ty, pos, af, none⟩
      (fun st => EvL st xs ss ∧ ElsAre g 0 (ss.map cellsOfS) ∧ (ss.all partB = true ∧ ss.all closed2 = true ∧ ss.all (fun s => Nat.beq (cellsOfS s).length k) = true)) (evKeys xs ++ ([] ++ [])) [.r d (.sl k xs.length g)] := by
  refine ⟨RT.stepF rfl ?_, (Dep.evL _ _).and ((Dep.pure _).and (Dep.pure _))⟩
  rintro st ⟨h1, h2, h3, h3', h4⟩ F ρ a w h
  have hl := h1.length
  have hval : ∀ (j : Nat) (s : SV) (v : Value), ss[j]? = some s → (xs.map a.eval)[j]? = some v → DenCs F w Env.none (cellsOfS s) (fun i => v.cells[i]?) v.cells.size ∧ v.cells.size = k := by
    intro j s v hs hv
    rw [List.getElem?_map] at hv
    cases hx : xs[j]? with
    | none => rw [hx] at hv; cases hv
    | some x =>
      rw [hx] at hv; injection hv with hv; subst hv
      have hm := List.mem_of_getElem? hs
      simp only [List.all_eq_true] at h3 h3' h4
      have hden := (h.eval (h1.at_ j x s hx hs)).closed2 (ρ' := Env.none) (h3' s hm)
      have hp := partOk hden (fun b v hb => by cases hb) (h3 s hm)
      exact ⟨hp, hp.1.symm.trans (Nat.eq_of_beq_eq_true (h4 s hm))⟩
  have hsz : ∀ v ∈ xs.map a.eval, v.cells.size = k := by
    intro v hv
    obtain ⟨j, hj⟩ := List.getElem?_of_mem hv
    have hjl : j < ss.length := by rw [← hl]; have := (List.getElem?_eq_some_iff.1 hj).1; simpa using this
    exact (hval j ss[j] v (List.getElem?_eq_getElem hjl) hj).2
  let base : Array Value := (Array.range (xs.length * k)).map ((if xs.length * k = 0 then #[] else zv.cells)[· % (if xs.length * k = 0 then #[] else zv.cells).size]!)
  obtain ⟨arr, f1, f2, _, f4⟩ := fill_seq k (xs.map a.eval) 0 base hsz (by simp [base])
  have hr : (Instr.buildSlice ty' xs.length ((seqParts 0 xs).toArray.map fun (i, x) => (i, a.eval x))).run P w = .ok (.slice (some ⟨w.heap.size, 0, none⟩) xs.length xs.length) (w.alloc (.cells arr e)) := by
    have hp : ((seqParts 0 xs).toArray.map fun (p : Nat × Operand) => (p.1, a.eval p.2)).toList = (List.range' 0 (xs.map a.eval).length).zip (xs.map a.eval) := by
      rw [List.map_toArray, List.length_map]
      exact range_zip xs a.eval 0
    have hb : ¬ (xs.length * k > 2 ^ 24) := by have := Nat.le_of_ble_eq_true hlen; omega
    have hfill : Instr.fill (fun i => some (i * k, k)) base ((seqParts 0 xs).toArray.map fun (p : Nat × Operand) => (p.1, a.eval p.2)).toList = some arr := by rw [hp]; exact f1
    unfold Instr.buildSlice
    simp only [Sem.run_bind, run_underlying hT.1, Result.andThen_ok, run_sizeOf hT.2, if_neg hb]
    by_cases h0 : xs.length * k = 0
    · simp only [base, if_pos h0] at hfill
      rw [if_pos h0]
      simp only [Sem.run_bind, Sem.run_pure, Result.andThen_ok, hfill, newRow, run_newObj]
      rfl
    · simp only [base, if_neg h0] at hfill
      rw [if_neg h0]
      simp only [Sem.run_bind, Sem.run_pure, Result.andThen_ok, run_zeroValue hz, hfill, newRow, run_newObj]
      rfl
  have hnew := h.newRead (.cells arr e)
  refine ⟨.slice (some ⟨w.heap.size, 0, none⟩) xs.length xs.length, _, _, ?_, hnew.setR hd (s := .sl k xs.length g) ?_, fun g hg => .inl hg, fun g hg => hg.elim .inl fun e => .inr (by omega)⟩
  · simp only [execOp, Sem.run_bind, hr, Result.andThen_ok, Sem.run_pure]
  · have hcell : ∀ i j, i < xs.length → j < k → ∃ v, arr[i * k + j]? = some v ∧ v.oneCell' = true ∧ Den F w Env.none (g i j) v := by
      intro i j hi hj
      have hv : (xs.map a.eval)[i]? = some (a.eval xs[i]) := by simp [hi]
      have hs : ss[i]? = some (ss[i]'(by omega)) := List.getElem?_eq_getElem (by omega)
      obtain ⟨d1, d2⟩ := hval i _ _ hs hv
      have h5 := f4 i j _ hv hj
      rw [Nat.zero_add] at h5
      have hjc : j < (a.eval xs[i]).cells.size := by omega
      rw [Array.getElem?_eq_getElem hjc] at h5
      have hjs : j < (cellsOfS (ss[i]'(by omega))).length := by rw [d1.1]; exact hjc
      have h6 := d1.2 j _ _ (List.getElem?_eq_getElem hjs) (Array.getElem?_eq_getElem hjc)
      have h7 := (h2.at_ i _ (by simp [hs])).at_ j _ (List.getElem?_eq_getElem hjs)
      rw [Nat.zero_add, Nat.zero_add] at h7
      rw [← h7] at h6
      exact ⟨_, h5, h6.2, h6.1⟩
    have hcm : xs.length ≤ maxLen := by
      have := Nat.le_of_ble_eq_true hlen
      have h2 : xs.length ≤ xs.length * k := Nat.le_mul_of_pos_right _ hk
      simp only [maxLen]; omega
    refine .sl (fun i j => (arr[i * k + j]?).getD undef) (.inr rfl) (Nat.le_refl _) hcm (fun i j hi hj => ?_) (fun i j hi hj => ?_) (fun i j hi hj => ?_)
    · obtain ⟨v, a1, _, _⟩ := hcell i j hi hj
      rw [Addr.add_lit, cell_of_row (w.alloc (.cells arr e)) w.heap.size _ arr e (0, 0) (heap_alloc_new w _), Nat.zero_add, a1]; rfl
    · obtain ⟨v, a1, a2, _⟩ := hcell i j hi hj
      rw [a1]; exact a2
    · obtain ⟨v, a1, _, a3⟩ := hcell i j hi hj
      rw [a1]
      exact a3.mono (fun g hg => .inl hg) (fun ad hF => World.cell?_of_block (Below.heap_alloc w _ _ (h.mem.fb _ hF))) _ (fun _ _ h => h)

theorem rd_buildSliceL {α : Type} {cell : α → Nat → SV} {d0 : α} {l : List α} {k e : Nat} {xs : List Operand} {ss : List SV} {zv : Value} (hd : d < N) (hT : elemT P ty' e k) (hz : zeroT P e zv) (hzk : zv.cells.size = k) (hk : 0 < k) (hlen : Nat.ble (xs.length * k) 16777216 = true) (hl : l.length = xs.length) :
    RTD P w0 M N F0 ops ⟨some d, .buildSlice ty' xs.length (seqParts 0 xs).toArray, ty, pos, af, none⟩
      (fun st => EvL st xs ss ∧ ElsAre (fun i j => cell (l.getD i d0) j) 0 (ss.map cellsOfS) ∧ (ss.all partB = true ∧ ss.all closed2 = true ∧ ss.all (fun s => Nat.beq (cellsOfS s).length k) = true)) (evKeys xs ++ ([] ++ [])) [.r d (slOf k cell d0 l)] := by
  have h := rd_buildSlice (P := P) (w0 := w0) (M := M) (N := N) (F0 := F0) (ops := ops) (ty := ty) (pos := pos) (af := af) (ss := ss) (g := fun i j => cell (l.getD i d0) j) hd hT hz hzk hk hlen
  unfold slOf
  rw [hl]
  exact h

/-! ### Structs that are compared -/
theorem eqF_nil (dp : Nat) (xs ys : Array Value) : (Op.eqFields dp xs ys []).run P w = .ok true w := by simp [Op.eqFields]
theorem eqF_cons {dp : Nat} {xs ys : Array Value} {f : Field} {fs : List Field} {u v : Value} {r r' : Bool} (hn : (f.name == "_") = false) (hu : (part f.type xs f.offset).run P w = .ok u w) (hv : (part f.type ys f.offset).run P w = .ok v w)
    (hr : (Op.equalIn dp f.type u v).run P w = .ok r w) (ih : (Op.eqFields dp xs ys fs).run P w = .ok r' w) : (Op.eqFields dp xs ys (f :: fs)).run P w = .ok (r && r') w := by
  have hn' : f.name ≠ "_" := by simpa using hn
  simp only [Op.eqFields, if_pos hn', Sem.run_bind, hu, hv, hr, Result.andThen_ok, Sem.run_ite]
  cases r
  · simp
  · simp [ih]
theorem run_part1 {t : TypeId} {cs : Array Value} {o : Nat} {v : Value} (hT : scalarT P t) (h : cs[o]? = some v) : (part t cs o).run P w = .ok v w := by
  simp [part, run_isAgg_scalar hT, h]
theorem run_partS {t k : Nat} {cs cs' : Array Value} {o : Nat} (hT : aggT P t k) (h : cs.extract o (o + k) = cs') : (part t cs o).run P w = .ok (.agg cs') w := by
  simp [part, run_isAgg_agg hT, run_sizeOf hT.2, h]
theorem string_eq (x y : ByteArray) : (x.toList == y.toList) = decide (x = y) := by
  by_cases h : x = y
  · subst h; simp
  · rw [decide_eq_false h]
    rw [beq_eq_false_iff_ne]
    intro e
    rw [ByteArray.toList_eq, ByteArray.toList_eq] at e
    exact h (by obtain ⟨⟨x⟩⟩ := x; obtain ⟨⟨y⟩⟩ := y; simp only at e; rw [e])
theorem run_equalStr (dp : Nat) (t : TypeId) (x y : ByteArray) (h : P.underlying t = some .string) : (Op.equalIn (dp + 1) t (.string x) (.string y)).run P w = .ok (decide (x = y)) w := by
  rw [run_equalIn_string w dp t x y h, string_eq]
theorem run_equalInt (dp : Nat) (t : TypeId) (k k' : IntKind) (x y : Int) (h : P.underlying t = some (.int k')) : (Op.equalIn (dp + 1) t (.int k x) (.int k y)).run P w = .ok (decide (x = y)) w := by
  rw [run_equalIn_int w dp t k k' x y h]; rfl

theorem rd_eqlS {xs ys : List Value} {r : Bool} {ty2 : TypeId} (hd : d < N) (hg : P.eqGuardType P.depth ty' = false) (hr : ∀ w, (Op.equalIn 10000 ty' (.agg xs.toArray) (.agg ys.toArray)).run P w = .ok r w) :
    RTD P w0 M N F0 ops ⟨some d, .binOp .eql ty' x y ty2, ty, pos, af, none⟩ (fun st => Ev st x (.agg (xs.map .val)) ∧ Ev st y (.agg (ys.map .val))) (opKeys x ++ opKeys y) [.r d (.b r)] := by
  refine ⟨RT.value rfl rfl hd ?_, (Dep.ev x _).and (Dep.ev y _)⟩
  rintro st ⟨h1, h2⟩ F ρ a w h
  have hx := aggVal (h.eval h1)
  have hy := aggVal (h.eval h2)
  exact ⟨.bool r, by simp only [execOp, hx, hy, Sem.run_bind, run_eqGuard_agg w .eql ty' x y _ _ hg, Result.andThen_ok, run_eql_struct, hr, Sem.run_pure], .val _⟩
where
  aggVal {F : Nat → Prop} {w : World} {ρ : Env} {xs : List Value} {v : Value} (h : Den F w ρ (.agg (xs.map .val)) v) : v = .agg xs.toArray := by
    generalize hs : (SV.agg (xs.map .val)) = s at h
    cases h <;> first | (cases hs; done) | skip
    rename_i ss vs hl hi
    injection hs with hs
    subst hs
    congr 2
    apply List.ext_getElem?
    intro j
    cases hj : vs[j]? with
    | none =>
      have hj' := List.getElem?_eq_none_iff.1 hj
      exact (List.getElem?_eq_none (by simpa [← hl] using hj')).symm
    | some v =>
      have hjl : j < xs.length := by have := (List.getElem?_eq_some_iff.1 hj).1; simpa [← hl] using this
      have := hi j (.val xs[j]) v (by simp [hjl]) hj
      rw [Den.val_iff.1 this, List.getElem?_eq_getElem hjl]
theorem rd_neqS {xs ys : List Value} {r : Bool} {ty2 : TypeId} (hd : d < N) (hg : P.eqGuardType P.depth ty' = false) (hr : ∀ w, (Op.equalIn 10000 ty' (.agg xs.toArray) (.agg ys.toArray)).run P w = .ok r w) :
    RTD P w0 M N F0 ops ⟨some d, .binOp .neq ty' x y ty2, ty, pos, af, none⟩ (fun st => Ev st x (.agg (xs.map .val)) ∧ Ev st y (.agg (ys.map .val))) (opKeys x ++ opKeys y) [.r d (.b (!r))] := by
  refine ⟨RT.value rfl rfl hd ?_, (Dep.ev x _).and (Dep.ev y _)⟩
  rintro st ⟨h1, h2⟩ F ρ a w h
  have hx := rd_eqlS.aggVal (h.eval h1)
  have hy := rd_eqlS.aggVal (h.eval h2)
  exact ⟨.bool (!r), by simp only [execOp, hx, hy, Sem.run_bind, run_eqGuard_agg w .neq ty' x y _ _ hg, Result.andThen_ok, run_neq_struct, hr, Sem.run_pure], .val _⟩

/-! ### Conversions of integers -/
theorem rd_conv {ts td : TypeId} {ks kd ks' : IntKind} {n : Int} (hd : d < N) (hs : P.underlying ts = some (.int ks')) (ht : P.underlying td = some (.int kd)) :
    RTD P w0 M N F0 ops ⟨some d, .convert ts td x, ty, pos, af, none⟩ (fun st => Ev st x (.val (.int ks n)) ∧ kd.wrap n = n) (opKeys x ++ []) [.r d (.val (.int kd n))] := by
  refine ⟨RT.value rfl rfl hd ?_, (Dep.ev x _).and (Dep.pure _)⟩
  rintro st ⟨h1, h2⟩ F ρ a w h
  exact ⟨_, by simp [execOp, h.evV h1, convert, run_underlying hs, run_underlying ht, Conv.intToInt, h2], .val _⟩
theorem mod_fix (x n : Int) (h : 1 ≤ n) : x % n = if x.tmod n < 0 then x.tmod n + n else x.tmod n := by
  rw [Int.tmod_eq_emod]
  have h0 := Int.emod_nonneg x (show n ≠ 0 by omega)
  have h1 := Int.emod_lt_of_pos x (show 0 < n by omega)
  split <;> split <;> omega
theorem wrap_i64 {n : Int} (h : -9223372036854775808 ≤ n ∧ n ≤ 9223372036854775807) : IntKind.i64.wrap n = n := IntWalk.i64_in _ h

end
end Go.Sp
