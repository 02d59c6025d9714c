/- The engine, part C: variables (new, read, written), guarded operations, calls. No condition. -/
import Derived.Test.YtdmfhnpibllfeaaSpB
namespace Go.Sp
open Go Go.RowKit

/-! ### Facts on types, each closed: by kernel_rfl -/
def sizeT (P : Program) (t : TypeId) (k : Nat) : Prop := (P.info? t).map (·.size) = some k
def scalarT (P : Program) (t : TypeId) : Prop := ∃ d, P.underlying t = some d ∧ (match d with | .struct _ | .array _ _ => false | _ => true) = true
def aggT (P : Program) (t : TypeId) (k : Nat) : Prop := (∃ d, P.underlying t = some d ∧ (match d with | .struct _ | .array _ _ => true | _ => false) = true) ∧ sizeT P t k
def fieldT (P : Program) (t n off : Nat) : Prop := ∃ fs f z, P.underlying t = some (.struct fs) ∧ fs[n]? = some f ∧ f.offset = off ∧ sizeT P f.type (z + 1)
def zeroT (P : Program) (t : TypeId) (z : Value) : Prop := (P.info? t).bind (·.zero) = some z

section
variable {P : Program} {w : World}
theorem run_typeInfo {t : TypeId} {i : TypeInfo} (h : P.info? t = some i) : (typeInfo t).run P w = .ok i w := by simp [typeInfo, h]
theorem run_sizeOf {t : TypeId} {k : Nat} (h : sizeT P t k) : (sizeOf t).run P w = .ok k w := by
  unfold sizeT at h
  cases hq : P.info? t with
  | none => simp [hq] at h
  | some i => simp [hq] at h; simp [sizeOf, typeInfo, hq, h]
theorem run_isAgg_scalar {t : TypeId} (h : scalarT P t) : (isAgg t).run P w = .ok false w := by
  obtain ⟨d, hd, hm⟩ := h
  unfold isAgg
  rw [Sem.run_bind, run_underlying hd w]
  cases d <;> simp_all
theorem run_isAgg_agg {t : TypeId} {k : Nat} (h : aggT P t k) : (isAgg t).run P w = .ok true w := by
  obtain ⟨⟨d, hd, hm⟩, _⟩ := h
  unfold isAgg
  rw [Sem.run_bind, run_underlying hd w]
  cases d <;> simp_all
theorem run_fieldAt {t n off : Nat} {a : Addr} (h : fieldT P t n off) : (Instr.fieldAt t (.pointer (some a)) n).run P w = .ok (.pointer (some (a.add off))) w := by
  obtain ⟨fs, f, z, hu, hf, ho, hs⟩ := h
  simp [Instr.fieldAt, run_underlying hu, hf, Instr.sureAddr, fieldPlace, run_sizeOf hs, ho]
theorem run_zeroValue {t : TypeId} {z : Value} (h : zeroT P t z) : (zeroValue t).run P w = .ok z w := by
  unfold zeroT at h
  cases hq : P.info? t with
  | none => simp [hq] at h
  | some i => simp [hq] at h; simp [zeroValue, typeInfo, hq, h]
end

/-! ### Lists of cells -/
def cellWr (b : Nat) : Nat → List SV → List Wr
  | _, [] => []
  | o, s :: r => .c b o s :: cellWr b (o + 1) r
def CellsAre (st : St) (b : Nat) : Nat → List SV → Prop
  | _, [] => True
  | o, s :: r => st.c b o = s ∧ CellsAre st b (o + 1) r
def cellKeys (b : Nat) : Nat → List SV → List Key
  | _, [] => []
  | o, _ :: r => .c b o :: cellKeys b (o + 1) r

theorem CellsAre.at_ {st : St} {b : Nat} : ∀ {cs : List SV} {o : Nat}, CellsAre st b o cs → ∀ j s, cs[j]? = some s → st.c b (o + j) = s
  | [], _, _, j, s, h => by simp at h
  | c :: r, o, ⟨h0, h1⟩, j, s, h => by
    cases j with
    | zero => simp at h; subst h; exact h0
    | succ j => have := h1.at_ j s (by simpa using h); rw [← this]; congr 1; omega

theorem app_append (st : St) (l l' : List Wr) : st.app (l ++ l') = (st.app l).app l' := by
  induction l generalizing st with
  | nil => rfl
  | cons x l ih => exact ih _

theorem app_cellWr (b : Nat) : ∀ (cs : List SV) (o : Nat) (st : St), (st.app (cellWr b o cs)).r = st.r ∧ (st.app (cellWr b o cs)).v = st.v ∧ (st.app (cellWr b o cs)).a = st.a ∧ (st.app (cellWr b o cs)).d = st.d ∧
    (∀ b' j, b' ≠ b → (st.app (cellWr b o cs)).c b' j = st.c b' j) ∧ (∀ j, (j < o ∨ o + cs.length ≤ j) → (st.app (cellWr b o cs)).c b j = st.c b j) ∧ (∀ j s, cs[j]? = some s → (st.app (cellWr b o cs)).c b (o + j) = s)
  | [], o, st => ⟨rfl, rfl, rfl, rfl, fun _ _ _ => rfl, fun _ _ => rfl, fun j s h => by simp at h⟩
  | c :: r, o, st => by
    obtain ⟨h1, h2, h3, h4, h5, h6, h7⟩ := app_cellWr b r (o + 1) (st.put (.c b o c))
    have hp : ∀ b' j, (st.put (.c b o c)).c b' j = if b' = b ∧ j = o then c else st.c b' j := by
      intro b' j
      show (bif Nat.beq b' b && Nat.beq j o then c else st.c b' j) = _
      by_cases e1 : b' = b
      · by_cases e2 : j = o
        · subst e1 e2; simp
        · have : Nat.beq j o = false := Bool.eq_false_iff.2 (fun e => e2 (Nat.eq_of_beq_eq_true e))
          simp [this, e2]
      · have : Nat.beq b' b = false := Bool.eq_false_iff.2 (fun e => e1 (Nat.eq_of_beq_eq_true e))
        simp [this, e1]
    refine ⟨h1, h2, h3, h4, fun b' j hb => (h5 b' j hb).trans (by rw [hp, if_neg (fun h => hb h.1)]), fun j hj => (h6 j ?_).trans (by rw [hp, if_neg]; rintro ⟨_, rfl⟩; simp at hj; omega), fun j s hs => ?_⟩
    · simp at hj ⊢; omega
    · cases j with
      | zero =>
        simp at hs; subst hs
        exact (h6 o (.inl (by omega))).trans (by rw [hp, if_pos ⟨rfl, rfl⟩])
      | succ j =>
        have := h7 j s (by simpa using hs)
        rw [← this, show o + (j + 1) = o + 1 + j by omega]; rfl

section
variable {P : Program} {w0 : World} {M : Mod} {N : Nat} {F0 : Nat → Prop} {ops : Array Oper}
variable {F : Nat → Prop} {ρ : Env} {st : St} {a : Act} {w : World}

def Env.set (ρ : Env) (b : Nat) (v : Value) : Env := fun x => if x = b then some v else ρ x

/-- A new variable. -/
theorem Rel'.newVar (h : Rel' w0 M N F ρ st a w) {b d : Nat} {ty : TypeId} {cs : List SV} {arr : Array Value} (hb : st.d b = false) (hd : d < N) (hk : cs.length = arr.size)
    (hden : ∀ (j : Nat) (s : SV) (x : Value), cs[j]? = some s → arr[j]? = some x → Den F w ρ s x ∧ x.oneCell' = true) :
    Rel' w0 M N F (ρ.set b (.pointer (some ⟨w.heap.size, 0, none⟩))) (st.app (.d b :: .v b (some (ty, cs.length)) :: .r d (.ptr b 0) :: cellWr b 0 cs))
      (a.put (some d) (.pointer (some ⟨w.heap.size, 0, none⟩))) (w.alloc (.cells arr ty)) := by
  have hρb := h.mem.dom b hb
  have hnp : ¬ st.present b := by
    rintro (hp | hp)
    · obtain ⟨x, hx⟩ := Option.ne_none_iff_exists'.1 hp
      obtain ⟨g, _, h1, _⟩ := h.mem.var b x.1 x.2 hx
      rw [hρb] at h1; cases h1
    · obtain ⟨A, hA⟩ := Option.ne_none_iff_exists'.1 hp
      obtain ⟨v, _, h1, _⟩ := h.mem.arr b A hA
      rw [hρb] at h1; cases h1
  have hρ : ∀ b' x, ρ b' = some x → (ρ.set b (.pointer (some ⟨w.heap.size, 0, none⟩))) b' = some x := fun b' x hx => by
    unfold Env.set
    rw [if_neg (fun e => by subst e; rw [hρb] at hx; cases hx)]; exact hx
  have hg := h.grow (w' := w.alloc (.cells arr ty)) (by simp) (fun g hg => Below.heap_alloc w _ g hg) rfl rfl rfl
  obtain ⟨h1, h2, h3, h4, h5, h6, h7⟩ := app_cellWr b cs 0 (((st.put (.d b)).put (.v b (some (ty, cs.length)))).put (.r d (.ptr b 0)))
  have up : ∀ {s v}, Den F w ρ s v → Den F (w.alloc (.cells arr ty)) (ρ.set b (.pointer (some ⟨w.heap.size, 0, none⟩))) s v := fun hd =>
    hd.mono (fun _ h => h) (fun ad hF => World.cell?_of_block (Below.heap_alloc w _ _ (h.mem.fb _ hF))) _ hρ
  have up' : ∀ {s v}, Den F (w.alloc (.cells arr ty)) ρ s v → Den F (w.alloc (.cells arr ty)) (ρ.set b (.pointer (some ⟨w.heap.size, 0, none⟩))) s v := fun hd =>
    hd.mono (fun _ h => h) (fun _ _ => rfl) _ hρ
  have hV : ∀ b', (st.app (.d b :: .v b (some (ty, cs.length)) :: .r d (.ptr b 0) :: cellWr b 0 cs)).v b' = if b' = b then some (ty, cs.length) else st.v b' := by
    intro b'
    show (St.app _ (cellWr b 0 cs)).v b' = _
    rw [h2]
    show (bif Nat.beq b' b then _ else st.v b') = _
    by_cases e : b' = b
    · subst e; simp
    · have : Nat.beq b' b = false := Bool.eq_false_iff.2 (fun h => e (Nat.eq_of_beq_eq_true h))
      simp [this, e]
  have hA : ∀ b', (st.app (.d b :: .v b (some (ty, cs.length)) :: .r d (.ptr b 0) :: cellWr b 0 cs)).a b' = st.a b' := fun b' => congrFun h3 b'
  have hD : ∀ b', (st.app (.d b :: .v b (some (ty, cs.length)) :: .r d (.ptr b 0) :: cellWr b 0 cs)).d b' = if b' = b then true else st.d b' := by
    intro b'
    show (St.app _ (cellWr b 0 cs)).d b' = _
    rw [h4]
    show (bif Nat.beq b' b then true else st.d b') = _
    by_cases e : b' = b
    · subst e; simp
    · have : Nat.beq b' b = false := Bool.eq_false_iff.2 (fun h => e (Nat.eq_of_beq_eq_true h))
      simp [this, e]
  have hP : ∀ b', (st.app (.d b :: .v b (some (ty, cs.length)) :: .r d (.ptr b 0) :: cellWr b 0 cs)).present b' → b' ≠ b → st.present b' := by
    rintro b' hp hne
    unfold St.present at hp ⊢
    rw [hV, hA, if_neg hne] at hp
    exact hp
  have hblk : ∀ b' v g, b' ≠ b → (st.app (.d b :: .v b (some (ty, cs.length)) :: .r d (.ptr b 0) :: cellWr b 0 cs)).present b' → (ρ.set b (.pointer (some ⟨w.heap.size, 0, none⟩))) b' = some v → blkOf v = some g → g < w.heap.size ∧ ρ b' = some v := by
    intro b' v g hne hp hv hbk
    have hv' : ρ b' = some v := by unfold Env.set at hv; rwa [if_neg hne] at hv
    exact ⟨h.mem.lt (hP b' hp hne) hv' hbk, hv'⟩
  have hself : ∀ v, (ρ.set b (.pointer (some ⟨w.heap.size, 0, none⟩))) b = some v → v = .pointer (some ⟨w.heap.size, 0, none⟩) := by
    intro v hv; unfold Env.set at hv; rw [if_pos rfl] at hv; injection hv with hv; exact hv.symm
  refine ⟨hg.fr, ⟨?_, ?_, ?_, ?_, ?_, hg.mem.fb, ?_⟩, ?_, ?_, by simp [Act.put, h.sz], h.df, fun b' g hp => hρ _ _ (h.pin b' g hp)⟩
  · intro b' hb'
    rw [hD] at hb'
    by_cases e : b' = b
    · rw [if_pos e] at hb'; cases hb'
    · rw [if_neg e] at hb'
      unfold Env.set; rw [if_neg e]; exact h.mem.dom b' hb'
  · intro b' ty' k' hv
    rw [hV] at hv
    by_cases e : b' = b
    · subst e
      rw [if_pos rfl] at hv; injection hv with hv; injection hv with hv1 hv2; subst hv1 hv2
      refine ⟨w.heap.size, arr, by unfold Env.set; rw [if_pos rfl], heap_alloc_new w _, hk.symm, fun j x hx => ?_⟩
      have hj : j < cs.length := by rw [hk]; exact (Array.getElem?_eq_some_iff.1 hx).1
      have hs : cs[j]? = some cs[j] := List.getElem?_eq_getElem hj
      have hc := h7 j _ hs
      rw [Nat.zero_add] at hc
      show Den F _ _ ((St.app _ (cellWr b' 0 cs)).c b' j) x ∧ _
      rw [hc]
      exact ⟨up (hden j _ x hs hx).1, (hden j _ x hs hx).2⟩
    · rw [if_neg e] at hv
      obtain ⟨g, arr', a1, a2, a3, a4⟩ := hg.mem.var b' ty' k' hv
      refine ⟨g, arr', hρ _ _ a1, a2, a3, fun j x hx => ⟨?_, (a4 j x hx).2⟩⟩
      show Den F _ _ ((St.app _ (cellWr b 0 cs)).c b' j) x
      rw [h5 b' j e]
      exact up' (a4 j x hx).1
  · intro b' A hA'
    rw [hA] at hA'
    obtain ⟨v, xs, a1, a2, a3⟩ := hg.mem.arr b' A hA'
    exact ⟨v, xs, hρ _ _ a1, a2, a3⟩
  · intro b1 b2 v1 v2 g p1 p2 r1 r2 g1 g2
    by_cases e1 : b1 = b
    · by_cases e2 : b2 = b
      · rw [e1, e2]
      · obtain ⟨hlt, _⟩ := hblk b2 v2 g e2 p2 r2 g2
        subst e1; rw [hself v1 r1] at g1; injection g1 with g1; subst g1; exact absurd hlt (Nat.lt_irrefl _)
    · obtain ⟨hlt, hr1⟩ := hblk b1 v1 g e1 p1 r1 g1
      by_cases e2 : b2 = b
      · subst e2; rw [hself v2 r2] at g2; injection g2 with g2; subst g2; exact absurd hlt (Nat.lt_irrefl _)
      · exact h.mem.sep b1 b2 v1 v2 g (hP _ p1 e1) (hP _ p2 e2) hr1 (hblk b2 v2 g e2 p2 r2 g2).2 g1 g2
  · intro b' v g hp hv hbk hF
    by_cases e : b' = b
    · subst e; rw [hself v hv] at hbk; injection hbk with hbk; subst hbk; exact absurd (h.mem.fb _ hF) (Nat.lt_irrefl _)
    · exact h.mem.own b' v g (hP _ hp e) (hblk b' v g e hp hv hbk).2 hbk hF
  · intro b' v hv
    by_cases e : b' = b
    · subst e; rw [hself v hv]; rfl
    · unfold Env.set at hv; rw [if_neg e] at hv; exact h.mem.one b' v hv
  · intro b' v g hp hv hbk
    by_cases e : b' = b
    · subst e; rw [hself v hv] at hbk; injection hbk with hbk; subst hbk; exact .inr h.fr.size
    · exact h.lo b' v g (hP _ hp e) (hblk b' v g e hp hv hbk).2 hbk
  · intro t
    rw [getD_put a d _ (by rw [h.sz]; exact hd)]
    show Den F _ _ ((St.app _ (cellWr b 0 cs)).r t) _
    rw [h1]
    show Den F _ _ (bif Nat.beq t d then SV.ptr b 0 else st.r t) _
    by_cases ht : t = d
    · subst ht
      simp only [Nat.beq_refl, cond_true, if_true]
      exact .ptr (by unfold Env.set; rw [if_pos rfl])
    · have hbq : Nat.beq t d = false := Bool.eq_false_iff.2 (fun e => ht (Nat.eq_of_beq_eq_true e))
      simp only [hbq, cond_false, if_neg ht]
      exact up' (hg.regs t)

/-- One block of a variable is written anew. -/
theorem Rel'.setVar (h : Rel' w0 M N F ρ st a w) {b k g : Nat} {ty : TypeId} {arr' : Array Value} {st' : St} (hv : st.v b = some (ty, k)) (hρ : ρ b = some (.pointer (some ⟨g, 0, none⟩)))
    (hs : arr'.size = k) (e1 : st'.r = st.r) (e2 : st'.v = st.v) (e3 : st'.a = st.a) (e4 : st'.d = st.d) (e5 : ∀ b' j, b' ≠ b → st'.c b' j = st.c b' j)
    (hc : ∀ j x, arr'[j]? = some x → Den F w ρ (st'.c b j) x ∧ x.oneCell' = true) : Rel' w0 M N F ρ st' a (w.setRow g arr') := by
  obtain ⟨g0, arr, a1, a2, a3, a4⟩ := h.mem.var b ty k hv
  rw [hρ] at a1; injection a1 with a1; injection a1 with a1; injection a1 with a1; injection a1 with a1; subst a1
  have hpb : st.present b := .inl (by rw [hv]; simp)
  have hother : ∀ g', g' ≠ g → (w.setRow g arr').heap[g']? = w.heap[g']? := fun g' hne => setRow_other w g g' arr' hne
  have hFg : ∀ g', F g' → g' ≠ g := fun g' hF e => by subst e; exact h.mem.own b _ _ hpb hρ rfl hF
  have up : ∀ {ρ s v}, Den F w ρ s v → Den F (w.setRow g arr') ρ s v := fun hd => hd.stay fun g' hF => hother g' (hFg g' hF)
  have hP : ∀ b', st'.present b' ↔ st.present b' := fun b' => by unfold St.present; rw [e2, e3]
  refine ⟨⟨h.fr.os, h.fr.tape, h.fr.output, by simpa using h.fr.size, fun g' hg' hM => ?_⟩, ⟨?_, ?_, ?_, ?_, ?_, fun g' hF => by simpa using h.mem.fb g' hF, h.mem.one⟩, ?_, ?_, h.sz, h.df, h.pin⟩
  · rw [hother g' ?_]; exact h.fr.blk g' hg' hM
    rintro rfl
    rcases h.lo b _ _ hpb hρ rfl with hm | hm
    · exact hM hm
    · exact absurd hg' (Nat.not_lt.2 hm)
  · intro b' hb'; rw [e4] at hb'; exact h.mem.dom b' hb'
  · intro b' ty' k' hv'
    rw [e2] at hv'
    by_cases e : b' = b
    · subst e
      rw [hv] at hv'; injection hv' with hv'; injection hv' with hv1 hv2; subst hv1 hv2
      exact ⟨g, arr', hρ, setRow_heap w g arr arr' ty (0, 0) a2, hs, fun j x hx => ⟨up (hc j x hx).1, (hc j x hx).2⟩⟩
    · obtain ⟨g', arr2, b1, b2, b3, b4⟩ := h.mem.var b' ty' k' hv'
      have hne : g' ≠ g := by
        rintro rfl
        exact e (h.mem.sep b' b _ _ g' (.inl (by rw [hv']; simp)) hpb b1 hρ rfl rfl)
      exact ⟨g', arr2, b1, (hother g' hne).trans b2, b3, fun j x hx => ⟨by rw [e5 b' j e]; exact up (b4 j x hx).1, (b4 j x hx).2⟩⟩
  · intro b' A hA
    rw [e3] at hA
    obtain ⟨v, xs, b1, b2, b3⟩ := h.mem.arr b' A hA
    refine ⟨v, xs, b1, ?_, fun i j hi hj => ?_⟩
    · refine b2.kept (row := some g) ⟨rfl, rfl, rfl, by simp, fun k' _ hk' => hother k' (fun e => hk' (by rw [e]))⟩ ?_
      refine .inr (fun hob => ?_)
      have hbk : blkOf v = some g := by
        cases v <;> simp [Value.ownBlock] at hob
        rename_i p _ _; cases p <;> simp at hob
        simpa [blkOf] using hob
      have := h.mem.sep b' b _ _ g (.inr (by rw [hA]; simp)) hpb b1 hρ hbk rfl
      subst this
      rw [hρ] at b1; injection b1 with b1; subst b1
      simp [Value.ownBlock] at hob
    · obtain ⟨x, c1, c2, c3⟩ := b3 i j hi hj
      exact ⟨x, c1, up c2, c3⟩
  · intro b1 b2 v1 v2 g' p1 p2; exact h.mem.sep b1 b2 v1 v2 g' ((hP _).1 p1) ((hP _).1 p2)
  · intro b' v g' p; exact h.mem.own b' v g' ((hP _).1 p)
  · intro b' v g' p; exact h.lo b' v g' ((hP _).1 p)
  · intro t; rw [e1]; exact up (h.regs t)

end
end Go.Sp
