/- The engine, part O: make, whole elements, freezing an array, calls that read own arrays, calls that hand back an own array. No condition. -/
import Derived.Test.YtdmfhnpibllfeaaSpN
namespace Go.Sp
open Go Go.RowKit

section
variable {P : Program} {w0 : World} {M : Mod} {N : Nat} {F0 : Nat → Prop} {ops : Array Oper}
variable {F : Nat → Prop} {ρ : Env} {st : St} {a : Act} {w : World}
variable {d : Nat} {x y z : Operand} {ty ty' : TypeId} {pos : String} {af : Array Edge}

theorem rd_storeAS {α : Type} {cell : α → Nat → SV} {d0 : α} {l : List α} {e k b i o m : Nat} {cs : List SV} (x' : α) (hT : sizeT P ty' m) :
    RTD P w0 M N F0 ops ⟨none, .store ty' x y, ty, pos, af, none⟩
      (fun st => Ev st x (.ael b k i o) ∧ Ev st y (.agg cs) ∧ st.a b = some (arrOf e k cell d0 l) ∧ (cs.all closed1 = true ∧ allOne cs = true ∧ i < l.length ∧ (o + m ≤ k ∧ cs.length = m) ∧ UpdAre (cell (l.getD i d0)) (cell x') o cs k))
      (opKeys x ++ (opKeys y ++ ([.a b] ++ []))) [.a b (some (arrOf e k cell d0 (l.set i x')))] := by
  refine ⟨RT.stepW rfl ?_, (Dep.ev x _).and ((Dep.ev y _).and ((Dep.a b _).and (Dep.pure _)))⟩
  rintro st ⟨h1, h2, h3, hc, h5, hi, ⟨ho, hm⟩, hu⟩ F ρ a w h
  have h6 := h.eval h1
  have h7 := h.eval h2
  generalize hx : a.eval x = v at h6
  generalize hy : a.eval y = u at h7
  cases h7 with
  | agg hl hden =>
  rename_i vs
  cases h6 with
  | ael hρ =>
    rename_i g n cap
    obtain ⟨w', hr, hk⟩ := h.storeArr (P := P) (i := i) (o := o) (A' := arrOf e k cell d0 (l.set i x')) (cs := cs) (vs := vs) h3 hρ rfl rfl (by simp [arrOf]) hi (by show o + cs.length ≤ k; omega) hl (by
      intro j s' x' hs hx'
      have hm := List.mem_of_getElem? hs
      unfold allOne at h5
      simp only [List.all_eq_true] at hc h5
      have hd := hden j s' x' hs hx'
      exact ⟨hd.closed1 (hc s' hm), oneS_spec hd h.mem.one (h5 s' hm)⟩) (updArr hu (by omega) hi)
    refine ⟨undef, ρ, w', .inr ⟨?_, rfl⟩, hk⟩
    have hrs := run_storeVar (w := w) hT (ad := ⟨g, i * k + o, none⟩) (v := .agg vs.toArray) (by simp [Value.cells]; omega)
    simp only [Value.cells] at hrs
    have hr' : (Go.storeCells ⟨g, i * k + o, none⟩ vs).run P w = .ok () w' := hr
    simp only [execOp, hx, hy, Instr.storeAt, Instr.sureAddr, Sem.run_bind, Sem.run_pure, Result.andThen_ok, hrs, hr']

/-- The cells of a zero element. -/
def ZeroAre (g : Nat → SV) (zs : Array Value) : Nat → Prop
  | 0 => True
  | j + 1 => g j = .val (zs.getD j undef) ∧ ZeroAre g zs j
theorem ZeroAre.at_ {g : Nat → SV} {zs : Array Value} : ∀ {k : Nat}, ZeroAre g zs k → ∀ j, j < k → g j = .val (zs.getD j undef)
  | 0, _, j, hj => absurd hj (Nat.not_lt_zero _)
  | k + 1, h, j, hj => by
    by_cases e : j = k
    · subst e; exact h.1
    · exact h.2.at_ j (by omega)

theorem rd_makeO {α : Type} {cell : α → Nat → SV} {d0 z0 : α} {e k bytes : Nat} {zv : Value} {m : Int} (hd : d < N) (ht : P.underlying ty' = some (.slice e)) (hI : infoE P e k bytes zv) (hz : ZeroAre (cell z0) zv.cells k) (hone : zv.cells.all Value.oneCell' = true) :
    RTD P w0 M N F0 ops ⟨some d, .makeSlice ty' x y, ty, pos, af, none⟩ (fun st => Ev st x (.i m) ∧ Ev st y (.i m) ∧ st.d d = false ∧ (0 ≤ m ∧ bytes * m ≤ 281474976710656 ∧ m ≤ 9223372036854775807)) (opKeys x ++ (opKeys y ++ ([.d d] ++ [])))
      [.d d, .a d (some (arrOf e k cell d0 (List.replicate m.toNat z0))), .r d (.own d)] := by
  refine ⟨RT.stepW rfl ?_, (Dep.ev x _).and ((Dep.ev y _).and ((Dep.d d _).and (Dep.pure _)))⟩
  rintro st ⟨h1, h2, h3, h4, h5, h6⟩ F ρ a w h
  obtain ⟨hI, hzs, hk⟩ := hI
  obtain ⟨i, hi, hz0, hz1, hz2⟩ := info_parts hI
  have hmm : ((m.toNat : Nat) : Int) = m := by omega
  have hb : i.bytes * m.toNat ≤ 281474976710656 := by
    rw [hz2]
    have : ((bytes * m.toNat : Nat) : Int) ≤ 281474976710656 := by rw [Int.natCast_mul, hmm]; exact h5
    omega
  obtain ⟨w', r1, r2, r3⟩ := run_make_full (P := P) w 0 ty' e i zv k ht hi hz0 hz1 .i64 .i64 m.toNat hb (by unfold maxLen; omega) (Nat.zero_le _)
  rw [hmm] at r1
  have hgrow := h.growRow r3 (fun g hg => by cases hg)
  refine ⟨_, _, w', .inl ?_, hgrow.addArr (b := d) (A := arrOf e k cell d0 (List.replicate m.toNat z0)) (xs := (madeCells zv.cells (m.toNat * k)).toList) h3 hd (by
    show w'.ownsRow 0 e k _ (List.replicate m.toNat z0).length _
    rw [List.length_replicate]; exact r2) rfl ?_ ?_⟩
  · simp only [execOp, h.evV h1, h.evV h2, r1, Sem.run_bind, Sem.run_pure, Result.andThen_ok]
  · intro i' j hi' hj
    have hi' : i' < m.toNat := by rw [← List.length_replicate (n := m.toNat) (a := z0)]; exact hi'
    have hj : j < k := hj
    have hrow := Nat.mul_le_mul_right k (show i' + 1 ≤ m.toNat from hi')
    rw [Nat.add_mul, Nat.one_mul] at hrow
    have hjz : j < zv.cells.size := by rw [hzs]; exact hj
    refine ⟨zv.cells[j], ?_, ?_, ?_⟩
    · show (madeCells zv.cells (m.toNat * k)).toList[i' * k + j]? = _
      have e2 : (i' * k + j) % k = j := by rw [Nat.mul_comm, Nat.mul_add_mod, Nat.mod_eq_of_lt hj]
      simp only [madeCells, Array.getElem?_toList, Array.getElem?_map, Array.getElem?_range]
      rw [if_pos (by omega)]
      simp only [Option.map_some, hzs, e2]
      simp [hjz]
    · show Den F w' Env.none (cell ((List.replicate m.toNat z0).getD i' d0) j) _
      have e1 : (List.replicate m.toNat z0).getD i' d0 = z0 := by simp [List.getD_eq_getElem?_getD, hi']
      rw [e1, hz.at_ j hj]
      have : zv.cells.getD j undef = zv.cells[j] := by simp [Array.getD_eq_getD_getElem?, hjz]
      rw [this]; exact .val _
    · rw [Array.all_eq_true] at hone; exact hone j hjz
  · intro g hg
    have hg : w.heap.size = g := by simpa [blkOf] using hg
    subst hg
    refine ⟨fun hF => absurd (h.mem.fb _ hF) (Nat.lt_irrefl _), .inr h.fr.size, fun b' u hp hu e => ?_⟩
    exact absurd (h.mem.lt hp hu e) (Nat.lt_irrefl _)

/-! ### An array that is only read from now on -/

def OwnsR (st : St) (b : Nat) : List Nat → Prop
  | [] => True
  | t :: r => st.r t = .own b ∧ OwnsR st b r

theorem Rel'.toRead (h : Rel' w0 M N F ρ st a w) {b : Nat} {v : Value} {A : Arr} (hA : st.a b = some A) (hρ : ρ b = some v) :
    Rel' w0 M N (fun g => F g ∨ blkOf v = some g) ρ (st.put (.a b none)) a w ∧ ∀ ρ', Den (fun g => F g ∨ blkOf v = some g) w ρ' (.sl A.k A.n A.g) v := by
  have hdrop := h.dropArr b
  have up : ∀ {ρ s u}, Den F w ρ s u → Den (fun g => F g ∨ blkOf v = some g) w ρ s u := fun hd => hd.mono (fun _ h => .inl h) (fun _ _ => rfl) _ (fun _ _ h => h)
  have hp : st.present b := .inr (by rw [hA]; simp)
  refine ⟨⟨hdrop.fr, ⟨hdrop.mem.dom, ?_, ?_, hdrop.mem.sep, ?_, ?_, hdrop.mem.one⟩, hdrop.lo, fun t => up (hdrop.regs t), hdrop.sz, hdrop.df, hdrop.pin⟩, fun ρ' => ?_⟩
  · intro b' ty k hv
    obtain ⟨g, arr, a1, a2, a3, a4⟩ := hdrop.mem.var b' ty k hv
    exact ⟨g, arr, a1, a2, a3, fun j x hj => ⟨up (a4 j x hj).1, (a4 j x hj).2⟩⟩
  · intro b' A' hA'
    obtain ⟨v', xs, a1, a2, a3⟩ := hdrop.mem.arr b' A' hA'
    refine ⟨v', xs, a1, a2, fun i j hi hj => ?_⟩
    obtain ⟨x, b1, b2, b3⟩ := a3 i j hi hj
    exact ⟨x, b1, up b2, b3⟩
  · intro b' v' g hp' hr hb hF
    rcases hF with hF | hF
    · exact hdrop.mem.own b' v' g hp' hr hb hF
    · exact (arr_alone h hA hρ hF).2.2 b' v' hp' hr hb
  · intro g hg
    rcases hg with hg | hg
    · exact h.mem.fb g hg
    · exact h.mem.lt hp hρ hg
  · obtain ⟨v', xs, a1, a2, a3⟩ := h.mem.arr b A hA
    rw [hρ] at a1; injection a1 with a1; subst a1
    rcases a2.2 with ⟨rfl, hn⟩ | ⟨g, cap, cur, rfl, _, _, hnc, hcm, _⟩
    · rw [hn]; exact .nilsl
    · have hget : ∀ i j, i < A.n → j < A.k → ∃ x, w.cell? ((⟨g, 0, none⟩ : Addr).add (i * A.k + j)) = some x ∧ Den F w Env.none (A.g i j) x ∧ x.oneCell' = true := by
        intro i j hi hj
        obtain ⟨x, c1, c2, c3⟩ := a3 i j hi hj
        exact ⟨x, a2.cells (g := g) rfl _ _ c1, c2, c3⟩
      refine .sl (fun i j => (w.cell? ((⟨g, 0, none⟩ : Addr).add (i * A.k + j))).getD undef) (.inr rfl) hnc hcm ?_ ?_ ?_
      · intro i j hi hj
        obtain ⟨x, c1, _⟩ := hget i j hi hj
        rw [c1]; rfl
      · intro i j hi hj
        obtain ⟨x, c1, _, c3⟩ := hget i j hi hj
        simp only [c1]; exact c3
      · intro i j hi hj
        obtain ⟨x, c1, c2, _⟩ := hget i j hi hj
        simp only [c1]; exact up c2

theorem Rel'.reR (h : Rel' w0 M N F ρ st a w) {t : Nat} {s : SV} (hs : Den F w ρ s (a.tmps.getD t undef)) : Rel' w0 M N F ρ (st.put (.r t s)) a w := by
  refine ⟨h.fr, h.mem.congr rfl rfl rfl rfl, h.lo, fun t' => ?_, h.sz, h.df, h.pin⟩
  show Den F w ρ (bif Nat.beq t' t then s else st.r t') _
  by_cases e : t' = t
  · subst e; simp only [Nat.beq_refl, cond_true]; exact hs
  · simp only [beqF e, cond_false]; exact h.regs t'

theorem Le.freeze {α : Type} {cell : α → Nat → SV} {d0 : α} {l : List α} {e k : Nat} (b : Nat) (ts : List Nat) (hA : st.a b = some (arrOf e k cell d0 l)) (ht : OwnsR st b ts) :
    Le w0 M N F0 st (st.app (.a b none :: ts.map fun t => .r t (slOf k cell d0 l))) := by
  rintro a w ⟨F, ρ, h, hF1, hF2⟩
  obtain ⟨v, xs, a1, _⟩ := h.mem.arr b _ hA
  obtain ⟨h1, h2⟩ := h.toRead hA a1
  have hp : st.present b := .inr (by rw [hA]; simp)
  refine ⟨fun g => F g ∨ blkOf v = some g, ρ, ?_, fun g hg => Or.inl (hF1 g hg), fun g hg => ?_⟩
  · have key : ∀ (ts : List Nat) (st' : St), Rel' w0 M N (fun g => F g ∨ blkOf v = some g) ρ st' a w → (∀ t, t ∈ ts → a.tmps.getD t undef = v) →
        Rel' w0 M N (fun g => F g ∨ blkOf v = some g) ρ (st'.app (ts.map fun t => .r t (slOf k cell d0 l))) a w := by
      intro ts
      induction ts with
      | nil => intro st' h' _; exact h'
      | cons t r ih =>
        intro st' h' hv
        refine ih _ (h'.reR ?_) (fun t' ht' => hv t' (by simp [ht']))
        rw [hv t (by simp)]
        exact h2 ρ
    have hown : ∀ (ts : List Nat), OwnsR st b ts → ∀ t, t ∈ ts → a.tmps.getD t undef = v := by
      intro ts
      induction ts with
      | nil => intro _ t ht; simp at ht
      | cons t r ih =>
        rintro ⟨q1, q2⟩ t' ht'
        rcases List.mem_cons.1 ht' with rfl | ht'
        · have := h.regs t'
          rw [q1] at this
          generalize hx : a.tmps.getD t' undef = u at this
          cases this with
          | own hρ => rw [a1] at hρ; injection hρ with hρ; exact hρ.symm
        · exact ih q2 t' ht'
    exact key ts _ h1 (hown ts ht)
  · rcases hg with hg | hg
    · exact hF2 g hg
    · rcases h.lo b v g hp a1 hg with hm | hm
      · exact .inr (.inl hm)
      · exact .inr (.inr hm)

/-! ### A call that reads own arrays -/

def flat1 : SV → Bool
  | .val _ => true
  | _ => false
def flat2 : SV → Bool
  | .val _ => true
  | .agg cs => cs.all flat1
  | _ => false
def flatS : SV → Bool
  | .val _ => true
  | .agg cs => cs.all flat1
  | .tup cs => cs.all flat2
  | _ => false
theorem Den.flat1 {F F' : Nat → Prop} {w w' : World} {ρ ρ' : Env} {s : SV} {v : Value} (h : Den F w ρ s v) (hc : Sp.flat1 s = true) : Den F' w' ρ' s v := by
  cases h <;> first | exact .val _ | cases hc
theorem Den.flat2 {F F' : Nat → Prop} {w w' : World} {ρ ρ' : Env} {s : SV} {v : Value} (h : Den F w ρ s v) (hc : Sp.flat2 s = true) : Den F' w' ρ' s v := by
  cases h with
  | val => exact .val _
  | agg hl hi => exact .agg hl fun i s v hs hv => (hi i s v hs hv).flat1 (by simp only [Sp.flat2, List.all_eq_true] at hc; exact hc s (List.mem_of_getElem? hs))
  | _ => cases hc
theorem Den.flat {F F' : Nat → Prop} {w w' : World} {ρ ρ' : Env} {s : SV} {v : Value} (h : Den F w ρ s v) (hc : flatS s = true) : Den F' w' ρ' s v := by
  cases h with
  | val => exact .val _
  | agg hl hi => exact .agg hl fun i s v hs hv => (hi i s v hs hv).flat1 (by simp only [flatS, List.all_eq_true] at hc; exact hc s (List.mem_of_getElem? hs))
  | tup hl hi => exact .tup hl fun i s v hs hv => (hi i s v hs hv).flat2 (by simp only [flatS, List.all_eq_true] at hc; exact hc s (List.mem_of_getElem? hs))
  | _ => cases hc

/-- An operand that is read: as it is, or an own array. -/
def EvR (st : St) (x : Operand) (s : SV) : Option Nat → Prop
  | none => Ev st x s ∧ closedS s = true
  | some b => Ev st x (.own b) ∧ ∃ A, st.a b = some A ∧ s = .sl A.k A.n A.g
def EvRL (st : St) : List Operand → List SV → List (Option Nat) → Prop
  | [], [], [] => True
  | x :: r, s :: t, o :: u => EvR st x s o ∧ EvRL st r t u
  | _, _, _ => False
def ownKeys : List (Option Nat) → List Key
  | [] => []
  | none :: u => ownKeys u
  | some b :: u => .a b :: ownKeys u
theorem Dep.evRL : ∀ (xs : List Operand) (ss : List SV) (os : List (Option Nat)), Dep (fun st => EvRL st xs ss os) (evKeys xs ++ ownKeys os)
  | [], [], [] => fun _ _ _ h => h
  | x :: r, s :: t, none :: u => fun st st' h ⟨⟨h0, h0'⟩, h1⟩ =>
    ⟨⟨Dep.ev x s st st' (fun κ hκ => h κ (by simp [evKeys, hκ])) h0, h0'⟩, Dep.evRL r t u st st' (fun κ hκ => h κ (by simp only [evKeys, ownKeys, List.mem_append] at hκ ⊢; rcases hκ with hκ | hκ; exact .inl (.inr hκ); exact .inr hκ)) h1⟩
  | x :: r, s :: t, some b :: u => fun st st' h ⟨⟨h0, A, hA, h0'⟩, h1⟩ =>
    ⟨⟨Dep.ev x _ st st' (fun κ hκ => h κ (by simp [evKeys, hκ])) h0, A, Dep.a b _ st st' (fun κ hκ => h κ (by simp [ownKeys] at hκ ⊢; simp [hκ])) hA, h0'⟩,
      Dep.evRL r t u st st' (fun κ hκ => h κ (by simp only [evKeys, ownKeys, List.mem_append, List.mem_cons] at hκ ⊢; rcases hκ with hκ | hκ; exact .inl (.inr hκ); exact .inr (.inr hκ))) h1⟩
  | [], _ :: _, _ => fun _ _ _ h => h.elim
  | _ :: _, [], _ => fun _ _ _ h => h.elim
  | [], [], _ :: _ => fun _ _ _ h => h.elim
  | _ :: _, _ :: _, [] => fun _ _ _ h => h.elim

theorem EvRL.length : ∀ {xs : List Operand} {ss : List SV} {os : List (Option Nat)}, EvRL st xs ss os → xs.length = ss.length
  | [], [], [], _ => rfl
  | _ :: _, _ :: _, _ :: _, ⟨_, h⟩ => by simp [EvRL.length h]
  | [], _ :: _, _, h => h.elim
  | _ :: _, [], _, h => h.elim
  | [], [], _ :: _, h => h.elim
  | _ :: _, _ :: _, [], h => h.elim

theorem EvRL.den (h : Rel' w0 M N F ρ st a w) : ∀ {xs : List Operand} {ss : List SV} {os : List (Option Nat)}, EvRL st xs ss os →
    ∀ (i : Nat) (s : SV) (v : Value), ss[i]? = some s → (xs.map a.eval)[i]? = some v → Den (fun g => F g ∨ ∃ b A u, st.a b = some A ∧ ρ b = some u ∧ blkOf u = some g) w Env.none s v
  | [], [], [], _, i, s, v, hs, _ => by simp at hs
  | x :: r, s0 :: t, o :: u, ⟨h0, h1⟩, i, s, v, hs, hv => by
    cases i with
    | succ i => exact h1.den h i s v (by simpa using hs) (by simpa using hv)
    | zero =>
      simp at hs hv
      subst hs hv
      cases o with
      | none => exact ((h.eval h0.1).closed h0.2).mono (fun _ h => .inl h) (fun _ _ => rfl) _ (fun _ _ h => h)
      | some b =>
        obtain ⟨h0, A, hA, rfl⟩ := h0
        have h6 := h.eval h0
        generalize hx : a.eval x = v at h6
        cases h6 with
        | own hρ => exact ((h.toRead hA hρ).2 Env.none).mono (fun g hg => hg.elim .inl fun e => .inr ⟨b, A, v, hA, hρ, e⟩) (fun _ _ => rfl) _ (fun _ _ h => h)
  | [], _ :: _, _, h, _, _, _, _, _ => h.elim
  | _ :: _, [], _, h, _, _, _, _, _ => h.elim
  | [], [], _ :: _, h, _, _, _, _, _ => h.elim
  | _ :: _, _ :: _, [], h, _, _, _, _, _ => h.elim

theorem rd_callR {f : FuncId} {xs : List Operand} {ats : Array TypeId} {args : List SV} {res : SV} (os : List (Option Nat)) (hd : d < N) (c : FnC P f args res) (hfl : flatS res = true) :
    RTD P w0 M N F0 ops ⟨some d, .call { callee := .value (.func f), args := xs.toArray, argTypes := ats }, ty, pos, af, none⟩ (fun st => EvRL st xs args os) (evKeys xs ++ ownKeys os) [.r d res] := by
  refine ⟨?_, Dep.evRL xs args os⟩
  rintro st h1 a w ⟨F, ρ, h, hF⟩
  rw [if_pos (wanted_none rfl)]
  unfold Oper.wp
  rw [execOp_call_go]
  have e : (#[] ++ xs.toArray.map a.eval ++ #[] : Array Value) = (xs.map a.eval).toArray := by simp
  rw [e, run_callFn c.ok]
  show Calls P f _ w _
  refine (c.run (fun g => F g ∨ ∃ b A u, st.a b = some A ∧ ρ b = some u ∧ blkOf u = some g) w (xs.map a.eval) (by rw [List.length_map]; exact h1.length.symm) (h1.den h) (fun g hg => ?_)).mono ?_
  · rcases hg with hg | ⟨b, A, u, q1, q2, q3⟩
    · exact h.mem.fb g hg
    · exact h.mem.lt (.inr (by rw [q1]; simp)) q2 q3
  · rintro e w' ⟨r, F', rfl, g1, g2, g3, g4, g5⟩
    exact ⟨F, ρ, (h.grow g1.size (fun g hg => g1.blk g hg id) g1.os g1.tape g1.output).setR hd (g5.flat hfl), hF.1, hF.2⟩

/-! ### A function that hands back an array of its own -/

structure FnO (P : Program) (f : FuncId) (args : List SV) (A : Arr) : Prop where
  ok : FnOk P f
  run : ∀ (F : Nat → Prop) (w : World) (vs : List Value), args.length = vs.length → (∀ (i : Nat) (s : SV) (v : Value), args[i]? = some s → vs[i]? = some v → Den F w Env.none s v) → (∀ g, F g → g < w.heap.size) →
    Calls P f vs.toArray w fun e w' => ∃ r F' xs, e = .returned r ∧ Fr w (fun _ => False) w' ∧ (∀ g, F g → F' g) ∧ (∀ g, F' g → F g ∨ w.heap.size ≤ g) ∧ (∀ g, F' g → g < w'.heap.size) ∧
      w'.ownsRow 0 A.ty A.k r A.n xs ∧ (∀ i j, i < A.n → j < A.k → ∃ x, xs[i * A.k + j]? = some x ∧ Den F' w' Env.none (A.g i j) x ∧ x.oneCell' = true) ∧ ∀ g, blkOf r = some g → w.heap.size ≤ g ∧ ¬ F' g

theorem rd_callO {f : FuncId} {xs : List Operand} {ats : Array TypeId} {args : List SV} {A : Arr} (hd : d < N) (c : FnO P f args A) :
    RTD P w0 M N F0 ops ⟨some d, .call { callee := .value (.func f), args := xs.toArray, argTypes := ats }, ty, pos, af, none⟩
      (fun st => EvL st xs args ∧ st.d d = false ∧ args.all closedS = true) (evKeys xs ++ ([.d d] ++ [])) [.d d, .a d (some A), .r d (.own d)] := by
  refine ⟨?_, (Dep.evL xs args).and ((Dep.d d _).and (Dep.pure _))⟩
  rintro st ⟨h1, h2, h3⟩ a w ⟨F, ρ, h, hF⟩
  rw [if_pos (wanted_none rfl)]
  unfold Oper.wp
  rw [execOp_call_go]
  have e : (#[] ++ xs.toArray.map a.eval ++ #[] : Array Value) = (xs.map a.eval).toArray := by simp
  rw [e, run_callFn c.ok]
  show Calls P f _ w _
  obtain ⟨q1, q2⟩ := den_args h h1 h3
  refine (c.run F w (xs.map a.eval) q1 q2 h.mem.fb).mono ?_
  rintro e w' ⟨r, F', ys, rfl, g1, g2, g3, g4, g5, g6, g7⟩
  have hone : r.oneCell' = true := by rcases g5.2 with ⟨rfl, _⟩ | ⟨g, cap, cur, rfl, _⟩ <;> rfl
  have hc := h.called g1 g2 g3 g4
  have hnew := hc.addArr (b := d) (d := d) h2 hd g5 hone g6 (fun g hg => ⟨(g7 g hg).2, .inr (Nat.le_trans h.fr.size (g7 g hg).1), fun b' v hp hv hbk => by
    have := h.mem.lt hp hv hbk
    have := (g7 g hg).1
    omega⟩)
  exact ⟨F', _, hnew, fun g hg => g2 g (hF.1 g hg), fun g hg => (g3 g hg).elim (fun hg => hF.2 g hg) fun hge => .inr (.inr (Nat.le_trans h.fr.size hge))⟩

def RetQO (rs : List ResultVar) (A : Arr) : Exit → St → Prop
  | .ret, st | .normal, st => ∃ t b, rs = [.tmp t] ∧ st.r t = .own b ∧ st.a b = some A
  | _, _ => False
theorem RetQO.mk {t b : Nat} {A A' : Arr} (h1 : st.r t = .own b) (h2 : st.a b = some A') (he : A = A') : RetQO [.tmp t] A .ret st := by subst he; exact ⟨t, b, rfl, h1, h2⟩

theorem FnO.intro {f : FuncId} {fn : Func} {c : Code} {args : List SV} {A : Arr} (N : Nat) (hf : P.funcs[f]? = some fn) (hb : fn.body = some c) (hname : (fn.name == "runtime.NumGoroutine") = false) (hN : fn.ntmps = N) (hl : args.length ≤ N)
    (h : ∀ (w : World) (F : Nat → Prop), W P w Mod.none N F c (initSt args) (RetQO fn.results.toList A)) : FnO P f args A := by
  refine ⟨⟨fn, hf, hname, by rw [hb]; rfl⟩, fun F w vs hlen hden hfb => ?_⟩
  refine calls_of_wp hf hb ?_
  refine Code.wp_mono ?_ (h w F _ w ⟨F, Env.none, init_rel hlen hden hfb hN hl, fun _ h => h, fun _ h => .inl h⟩)
  rintro e a' w' ⟨st', hq, F', ρ', hr, hF1, hF2⟩
  have fin : (∃ t b, fn.results.toList = [.tmp t] ∧ st'.r t = .own b ∧ st'.a b = some A) →
      a'.defers = [] ∧ ∃ v, (results fn a'.tmps).run P w' = .ok v w' ∧ ∃ r F' xs, Ending.returned v = .returned r ∧ Fr w (fun _ => False) w' ∧ (∀ g, F g → F' g) ∧ (∀ g, F' g → F g ∨ w.heap.size ≤ g) ∧ (∀ g, F' g → g < w'.heap.size) ∧
        w'.ownsRow 0 A.ty A.k r A.n xs ∧ (∀ i j, i < A.n → j < A.k → ∃ x, xs[i * A.k + j]? = some x ∧ Den F' w' Env.none (A.g i j) x ∧ x.oneCell' = true) ∧ ∀ g, blkOf r = some g → w.heap.size ≤ g ∧ ¬ F' g := by
    rintro ⟨t, b, q1, q2, q3⟩
    have hreg := hr.regs t
    rw [q2] at hreg
    have hrs : fn.results = #[.tmp t] := by
      obtain ⟨l⟩ : ∃ l : List ResultVar, fn.results = l.toArray := ⟨fn.results.toList, by simp⟩
      rename_i hl'
      rw [hl'] at q1 ⊢
      simp only at q1
      rw [q1]
    have hres := results_tmp (P := P) (w := w') hrs a'.tmps
    generalize hx : a'.tmps.getD t undef = v at hreg hres
    cases hreg with
    | own hρ =>
      have hpb : st'.present b := .inr (by rw [q3]; simp)
      obtain ⟨v', xs, b1, b2, b3⟩ := hr.mem.arr b A q3
      rw [hρ] at b1; injection b1 with b1; subst b1
      refine ⟨hr.df, _, hres, _, F', xs, rfl, hr.fr, hF1, fun g hg => (hF2 g hg).elim .inl fun h => h.elim False.elim .inr, hr.mem.fb, b2, b3, fun g hg => ⟨?_, hr.mem.own b _ g hpb hρ hg⟩⟩
      rcases hr.lo b _ _ hpb hρ hg with hf | hge
      · exact hf.elim
      · exact hge
  cases e with
  | ret => exact fin hq
  | normal => exact fin hq
  | _ => exact hq.elim

end
end Go.Sp
