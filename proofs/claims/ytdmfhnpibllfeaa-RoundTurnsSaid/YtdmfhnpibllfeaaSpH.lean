/- The engine, part H: code, loops, a function's contract. No condition. -/
import Derived.Test.YtdmfhnpibllfeaaSpG
import Derived.Scope
namespace Go.Sp
open Go Go.RowKit

/-- A bound on closed numbers. -/
theorem lb {m n : Nat} (h : Nat.ble m n = true := by rfl) : m ≤ n := Nat.le_of_ble_eq_true h

def thenQ (R : St → Prop) (Q : Exit → St → Prop) : Exit → St → Prop
  | .normal, st => R st
  | e, st => Q e st
def blockQ (id : Nat) (Q : Exit → St → Prop) : Exit → St → Prop
  | .exit id', st => bif Nat.beq id' id then Q .normal st else Q (.exit id') st
  | e, st => Q e st
def scopeQ (Q : Exit → St → Prop) : Exit → St → Prop
  | .goto _, _ => False
  | e, st => Q e st

section
variable {P : Program} {w0 : World} {M : Mod} {N : Nat} {F0 : Nat → Prop}
variable {st : St} {Q : Exit → St → Prop}

def QX (w0 : World) (M : Mod) (N : Nat) (F0 : Nat → Prop) (Q : Exit → St → Prop) : Exit → Act → World → Prop := fun e a w => ∃ st', Q e st' ∧ Rel w0 M N F0 st' a w
/-- From state st the code c comes to Q. -/
def W (P : Program) (w0 : World) (M : Mod) (N : Nat) (F0 : Nat → Prop) (c : Code) (st : St) (Q : Exit → St → Prop) : Prop := ∀ a w, Rel w0 M N F0 st a w → c.wp P (QX w0 M N F0 Q) a w
def Le (w0 : World) (M : Mod) (N : Nat) (F0 : Nat → Prop) (st st' : St) : Prop := ∀ a w, Rel w0 M N F0 st a w → Rel w0 M N F0 st' a w

theorem W.le {c : Code} {st' : St} (h : Le w0 M N F0 st st') (hw : W P w0 M N F0 c st' Q) : W P w0 M N F0 c st Q := fun a w hr => hw a w (h a w hr)
theorem Le.refl : Le w0 M N F0 st st := fun _ _ h => h

theorem W.region {id : Nat} {l : List Oper} (h : G P w0 M N F0 false l.toArray st [] l st (Q .normal)) : W P w0 M N F0 (.region id l.toArray false) st Q := by
  intro a w hr
  have h1 := h [] rfl rfl trivial rfl a w hr
  rw [if_neg (by simp)] at h1
  refine Code.wp_mono ?_ (wp_region_list h1)
  intro e a w hq
  cases e <;> first | exact hq | exact hq.elim
theorem W.drawn {id : Nat} {l : List Oper} (hm : P.follows .mixedOrders = true) (h : G P w0 M N F0 true l.toArray st [] l st (Q .normal)) : W P w0 M N F0 (.region id l.toArray true) st Q := by
  intro a w hr
  have h1 := h [] rfl rfl trivial rfl a w hr
  rw [if_pos rfl] at h1
  refine Code.wp_mono ?_ (wp_region_any hm h1)
  intro e a w hq
  cases e <;> first | exact hq | exact hq.elim
theorem W.seq {x y : Code} (h : W P w0 M N F0 x st (thenQ (fun st' => W P w0 M N F0 y st' Q) Q)) : W P w0 M N F0 (.seq x y) st Q := by
  intro a w hr
  refine wp_seq (Code.wp_mono ?_ (h a w hr))
  rintro e a w ⟨st', hq, hr'⟩
  cases e <;> first | exact hq a w hr' | exact ⟨st', hq, hr'⟩
theorem W.cond {c : Operand} {x y : Code} {t : Bool} (hc : Ev st c (.b t)) (h1 : t = true → W P w0 M N F0 x st Q) (h2 : t = false → W P w0 M N F0 y st Q) : W P w0 M N F0 (.cond c x y) st Q := by
  intro a w hr
  obtain ⟨F, ρ, h, hF⟩ := id hr
  exact wp_cond_split (h.evV hc) (fun e => h1 e a w hr) (fun e => h2 e a w hr)
theorem W.block {id : Nat} {c : Code} (h : W P w0 M N F0 c st (blockQ id Q)) : W P w0 M N F0 (.block id c) st Q := by
  intro a w hr
  refine wp_block (Code.wp_mono ?_ (h a w hr))
  rintro e a w ⟨st', hq, hr'⟩
  cases e with
  | exit id' =>
    simp only [blockQ] at hq
    by_cases e : id' = id
    · subst e; simp only [Nat.beq_refl, cond_true] at hq
      simp only [Exit.inBlock, if_true]; exact ⟨st', hq, hr'⟩
    · have hb : Nat.beq id' id = false := Bool.eq_false_iff.2 (fun h => e (Nat.eq_of_beq_eq_true h))
      simp only [hb, cond_false] at hq
      simp only [Exit.inBlock, if_neg e]; exact ⟨st', hq, hr'⟩
  | _ => exact ⟨st', hq, hr'⟩
theorem W.scope {c : Code} (h : W P w0 M N F0 c st (scopeQ Q)) : W P w0 M N F0 (.scope c) st Q := by
  intro a w hr
  refine wp_scope_straight (Code.wp_mono ?_ (h a w hr))
  rintro e a w ⟨st', hq, hr'⟩
  cases e <;> first | exact ⟨st', hq, hr'⟩ | exact hq.elim
theorem W.exit {id : Nat} (h : Q (.exit id) st) : W P w0 M N F0 (.exit id) st Q := fun _ _ hr => wp_exit ⟨st, h, hr⟩
theorem W.ret (h : Q .ret st) : W P w0 M N F0 .ret st Q := fun _ _ hr => wp_ret ⟨st, h, hr⟩
theorem W.skip (h : Q .normal st) : W P w0 M N F0 .skip st Q := fun _ _ hr => wp_skip ⟨st, h, hr⟩

/-- A loop, by a family of states f, of which those with p are met at a round's begin, and a measure. -/
theorem W.loop {c : Code} {α : Type} (f : α → St) (p : α → Prop) (μ : α → Nat) (i0 : α) (h0 : Le w0 M N F0 st (f i0)) (hp : p i0)
    (round : ∀ i, p i → W P w0 M N F0 c (f i) (thenQ (fun st' => ∃ j, p j ∧ μ j < μ i ∧ Le w0 M N F0 st' (f j)) Q)) : W P w0 M N F0 (.loop c) st Q := by
  intro a w hr b k cs
  have key : ∀ n i a w, μ i = n → p i → Rel w0 M N F0 (f i) a w →
      ∃ e a' w', QX w0 M N F0 Q e a' w' ∧ Arrives P (lone (b.at a (.code c :: .inLoop c :: k)) cs w) b k cs e a' w' := by
    intro n
    induction n using Nat.strongRecOn with
    | _ n ih =>
      intro i a w hn hpi hrel
      obtain ⟨e, a₁, w₁, ⟨st', hq, hr'⟩, harr⟩ := round i hpi a w hrel b (.inLoop c :: k) cs
      cases e with
      | normal =>
        obtain ⟨j, hpj, hlt, hle⟩ := hq
        obtain ⟨e₂, a₂, w₂, hq₂, harr₂⟩ := ih (μ j) (hn ▸ hlt) j a₁ w₁ rfl hpj (hle a₁ w₁ hr')
        exact ⟨e₂, a₂, w₂, hq₂, .of_steps (Steps.trans harr (.one step_inLoop)) harr₂⟩
      | exit id => exact ⟨_, a₁, w₁, ⟨st', hq, hr'⟩, .pass (x := .inLoop c) rfl (fun _ _ => .inl (by simp)) harr⟩
      | goto l => exact ⟨_, a₁, w₁, ⟨st', hq, hr'⟩, .pass (x := .inLoop c) rfl (fun _ _ => .inl (by simp)) harr⟩
      | ret => exact ⟨_, a₁, w₁, ⟨st', hq, hr'⟩, .pass (x := .inLoop c) rfl (fun _ _ => .inl (by simp)) harr⟩
      | panic ch => exact ⟨_, a₁, w₁, ⟨st', hq, hr'⟩, .pass (x := .inLoop c) rfl (fun _ _ => .inl (by simp)) harr⟩
      | outgrown => exact ⟨_, a₁, w₁, ⟨st', hq, hr'⟩, .pass (x := .inLoop c) rfl (fun _ _ => .inl (by simp)) harr⟩
  obtain ⟨e, a', w', hq, harr⟩ := key _ i0 a w rfl hp (h0 a w hr)
  exact ⟨e, a', w', hq, .of_steps (.one step_loop) harr⟩

/-! ### A state written out -/
def nthS : List SV → Nat → SV
  | [], _ => .any
  | s :: _, 0 => s
  | _ :: r, n + 1 => nthS r n
def lookR : List (Nat × SV) → Nat → SV
  | [], _ => .any
  | (x, s) :: l, t => bif Nat.beq t x then s else lookR l t
def lookC : List (Nat × TypeId × List SV) → Nat → Nat → SV
  | [], _, _ => .any
  | (x, _, cs) :: l, b, o => bif Nat.beq b x then nthS cs o else lookC l b o
def lookV : List (Nat × TypeId × List SV) → Nat → Option (TypeId × Nat)
  | [], _ => none
  | (x, ty, cs) :: l, b => bif Nat.beq b x then some (ty, cs.length) else lookV l b
def lookA : List (Nat × Arr) → Nat → Option Arr
  | [], _ => none
  | (x, A) :: l, b => bif Nat.beq b x then some A else lookA l b
def namesOf (vars : List (Nat × TypeId × List SV)) (arrs : List (Nat × Arr)) : List Nat := vars.map (·.1) ++ arrs.map (·.1)
def mkSt (regs : List (Nat × SV)) (vars : List (Nat × TypeId × List SV)) (arrs : List (Nat × Arr)) : St :=
  { r := lookR regs, c := lookC vars, v := lookV vars, a := lookA arrs, d := memN (namesOf vars arrs) }

/-- The symbolic value s of the state that is written out is that of st, its names read through π. -/
def SvOk (π : Nat → Nat) (names : List Nat) (x s : SV) : Prop :=
  match s with
  | .any => True
  | .ptr b o => x = .ptr (π b) o ∧ memN names b = true
  | .ael b k i o => x = .ael (π b) k i o ∧ memN names b = true
  | .own b => x = .own (π b) ∧ memN names b = true
  | s => x = s ∧ closedS s = true
def RegsOk (st : St) (π : Nat → Nat) (names : List Nat) : List (Nat × SV) → Prop
  | [] => True
  | (t, s) :: l => SvOk π names (st.r t) s ∧ RegsOk st π names l
def CsOk (st : St) (π : Nat → Nat) (names : List Nat) (b : Nat) : Nat → List SV → Prop
  | _, [] => True
  | o, s :: r => SvOk π names (st.c b o) s ∧ CsOk st π names b (o + 1) r
def VarsOk (st : St) (π : Nat → Nat) (names : List Nat) : List (Nat × TypeId × List SV) → Prop
  | [] => True
  | (b, ty, cs) :: l => (∃ k, st.v (π b) = some (ty, k) ∧ Nat.beq k cs.length = true ∧ CsOk st π names (π b) 0 cs) ∧ VarsOk st π names l
def ArrsOk (st : St) (π : Nat → Nat) : List (Nat × Arr) → Prop
  | [] => True
  | (b, A) :: l => st.a (π b) = some A ∧ ArrsOk st π l
def noDup : List Nat → Bool
  | [] => true
  | x :: l => !memN l x && noDup l

theorem noDup_inj {l : List Nat} {π : Nat → Nat} (h : noDup (l.map π) = true) : ∀ x y, x ∈ l → y ∈ l → π x = π y → x = y := by
  induction l with
  | nil => intro x y hx; cases hx
  | cons a l ih =>
    simp only [List.map_cons, noDup, Bool.and_eq_true, Bool.not_eq_true'] at h
    have hn : ∀ z, z ∈ l → π z ≠ π a := fun z hz e => by
      have : memN (l.map π) (π a) = true := memN_iff.2 (by rw [← e]; exact List.mem_map_of_mem hz)
      rw [h.1] at this; cases this
    intro x y hx hy e
    rcases List.mem_cons.1 hx with e1 | hx' <;> rcases List.mem_cons.1 hy with e2 | hy'
    · rw [e1, e2]
    · subst e1; exact absurd e.symm (hn y hy')
    · subst e2; exact absurd e (hn x hx')
    · exact ih h.2 x y hx' hy' e

theorem SvOk.den {F : Nat → Prop} {w : World} {ρ : Env} {π : Nat → Nat} {names : List Nat} {x s : SV} {v : Value} (h : SvOk π names x s) (hd : Den F w ρ x v) :
    Den F w (fun b => if b ∈ names then ρ (π b) else none) s v := by
  cases s with
  | any => exact .any _
  | ptr b o =>
    obtain ⟨rfl, hm⟩ := h
    cases hd with
    | ptr hρ => exact .ptr (by rw [if_pos (memN_iff.1 hm)]; exact hρ)
  | ael b k i o =>
    obtain ⟨rfl, hm⟩ := h
    cases hd with
    | ael hρ => exact .ael (by rw [if_pos (memN_iff.1 hm)]; exact hρ)
  | own b =>
    obtain ⟨rfl, hm⟩ := h
    cases hd with
    | own hρ => exact .own (by rw [if_pos (memN_iff.1 hm)]; exact hρ)
  | val u => obtain ⟨rfl, hc⟩ := h; exact hd.closed hc
  | sl k n g => obtain ⟨rfl, hc⟩ := h; exact hd.closed hc
  | sel k n g i o => obtain ⟨rfl, hc⟩ := h; exact hd.closed hc
  | agg cs => obtain ⟨rfl, hc⟩ := h; exact hd.closed hc
  | tup cs => obtain ⟨rfl, hc⟩ := h; exact hd.closed hc
  | when c s => obtain ⟨rfl, hc⟩ := h; exact hd.closed hc
  | clo f cs => obtain ⟨rfl, hc⟩ := h; exact hd.closed hc

theorem RegsOk.at_ {π : Nat → Nat} {names : List Nat} : ∀ {l : List (Nat × SV)}, RegsOk st π names l → ∀ t, SvOk π names (st.r t) (lookR l t)
  | [], _, _ => trivial
  | (x, s) :: l, ⟨h0, h1⟩, t => by
    show SvOk π names _ (bif Nat.beq t x then s else lookR l t)
    cases hb : Nat.beq t x with
    | true => have := Nat.eq_of_beq_eq_true hb; subst this; exact h0
    | false => exact h1.at_ t
theorem CsOk.at_ {π : Nat → Nat} {names : List Nat} {b : Nat} : ∀ {cs : List SV} {o : Nat}, CsOk st π names b o cs → ∀ j, j < cs.length → SvOk π names (st.c b (o + j)) (nthS cs j)
  | [], _, _, j, h => by simp at h
  | s :: r, o, ⟨h0, h1⟩, j, h => by
    cases j with
    | zero => exact h0
    | succ j => have := h1.at_ j (by simpa using h); rwa [show o + 1 + j = o + (j + 1) by omega] at this
theorem VarsOk.at_ {π : Nat → Nat} {names : List Nat} : ∀ {l : List (Nat × TypeId × List SV)}, VarsOk st π names l → ∀ b ty k, lookV l b = some (ty, k) →
    b ∈ l.map (·.1) ∧ st.v (π b) = some (ty, k) ∧ ∀ j, j < k → SvOk π names (st.c (π b) j) (lookC l b j)
  | [], _, _, _, _, h => by cases h
  | (x, ty', cs) :: l, ⟨⟨k0, h0, hk0, h0'⟩, h1⟩, b, ty, k, h => by
    have hk0' := Nat.eq_of_beq_eq_true hk0
    subst hk0'
    have h' : (bif Nat.beq b x then some (ty', cs.length) else lookV l b) = some (ty, k) := h
    have hc : ∀ j, lookC ((x, ty', cs) :: l) b j = bif Nat.beq b x then nthS cs j else lookC l b j := fun _ => rfl
    cases hb : Nat.beq b x with
    | true =>
      have := Nat.eq_of_beq_eq_true hb; subst this
      rw [hb] at h'; injection h' with h'; injection h' with e1 e2; subst e1 e2
      refine ⟨by simp, h0, fun j hj => ?_⟩
      rw [hc, hb]; have := h0'.at_ j hj; rwa [Nat.zero_add] at this
    | false =>
      rw [hb] at h'
      obtain ⟨a1, a2, a3⟩ := h1.at_ b ty k h'
      refine ⟨by simp [a1], a2, fun j hj => ?_⟩
      rw [hc, hb]; exact a3 j hj
theorem ArrsOk.at_ {π : Nat → Nat} : ∀ {l : List (Nat × Arr)}, ArrsOk st π l → ∀ b A, lookA l b = some A → b ∈ l.map (·.1) ∧ st.a (π b) = some A
  | [], _, _, _, h => by cases h
  | (x, A') :: l, ⟨h0, h1⟩, b, A, h => by
    have h' : (bif Nat.beq b x then some A' else lookA l b) = some A := h
    cases hb : Nat.beq b x with
    | true =>
      have := Nat.eq_of_beq_eq_true hb; subst this
      rw [hb] at h'; injection h' with h'; subst h'
      exact ⟨by simp, h0⟩
    | false =>
      rw [hb] at h'
      obtain ⟨a1, a2⟩ := h1.at_ b A h'
      exact ⟨by simp [a1], a2⟩

/-- The names that a call has of its caller's blocks stay. -/
def PinOk (M : Mod) (π : Nat → Nat) (names : List Nat) : Prop := ∀ b g, M.pin b = some g → b ∈ names ∧ π b = b
theorem PinOk.none {π : Nat → Nat} {names : List Nat} : PinOk Mod.none π names := fun b g h => by cases h
theorem PinOk.one {π : Nat → Nat} {names : List Nat} {b g : Nat} (h : memN names b = true) (h' : π b = b) : PinOk (Mod.one b g) π names := by
  intro b' g' hp
  have hp' : (if b' = b then some (Value.pointer (some ⟨g, 0, Option.none⟩)) else Option.none) = some g' := hp
  by_cases e : b' = b
  · subst e; exact ⟨memN_iff.1 h, h'⟩
  · rw [if_neg e] at hp'; cases hp'

theorem Le.mk {regs : List (Nat × SV)} {vars : List (Nat × TypeId × List SV)} {arrs : List (Nat × Arr)} (π : Nat → Nat) (hr : RegsOk st π (namesOf vars arrs) regs) (hv : VarsOk st π (namesOf vars arrs) vars)
    (ha : ArrsOk st π arrs) (hn : noDup ((namesOf vars arrs).map π) = true) (hpin : PinOk M π (namesOf vars arrs)) : Le w0 M N F0 st (mkSt regs vars arrs) := by
  rintro a w ⟨F, ρ, h, hF⟩
  refine ⟨F, fun b => if b ∈ namesOf vars arrs then ρ (π b) else none, ?_, hF⟩
  have hpres : ∀ b, (mkSt regs vars arrs).present b → b ∈ namesOf vars arrs ∧ st.present (π b) := by
    rintro b (hp | hp)
    · obtain ⟨x, hx⟩ := Option.ne_none_iff_exists'.1 hp
      obtain ⟨a1, a2, _⟩ := hv.at_ b x.1 x.2 hx
      exact ⟨List.mem_append.2 (.inl a1), .inl (by rw [a2]; simp)⟩
    · obtain ⟨A, hA⟩ := Option.ne_none_iff_exists'.1 hp
      obtain ⟨a1, a2⟩ := ha.at_ b A hA
      exact ⟨List.mem_append.2 (.inr a1), .inr (by rw [a2]; simp)⟩
  refine ⟨h.fr, ⟨?_, ?_, ?_, ?_, ?_, h.mem.fb, ?_⟩, ?_, ?_, h.sz, h.df, fun b g hp => by obtain ⟨q1, q2⟩ := hpin b g hp; rw [if_pos q1, q2]; exact h.pin b g hp⟩
  · intro b hb
    have : b ∉ namesOf vars arrs := fun hm => by have h2 : memN (namesOf vars arrs) b = true := memN_iff.2 hm; rw [show memN (namesOf vars arrs) b = false from hb] at h2; cases h2
    exact if_neg this
  · intro b ty k hvb
    obtain ⟨a1, a2, a3⟩ := hv.at_ b ty k hvb
    obtain ⟨g, arr, b1, b2, b3, b4⟩ := h.mem.var (π b) ty k a2
    refine ⟨g, arr, by rw [if_pos (show b ∈ namesOf vars arrs from List.mem_append.2 (.inl a1))]; exact b1, b2, b3, fun j x hj => ⟨?_, (b4 j x hj).2⟩⟩
    exact (a3 j (by rw [← b3]; exact (Array.getElem?_eq_some_iff.1 hj).1)).den (b4 j x hj).1
  · intro b A hA
    obtain ⟨a1, a2⟩ := ha.at_ b A hA
    obtain ⟨v, xs, b1, b2, b3⟩ := h.mem.arr (π b) A a2
    exact ⟨v, xs, by rw [if_pos (show b ∈ namesOf vars arrs from List.mem_append.2 (.inr a1))]; exact b1, b2, b3⟩
  · intro b b' v v' g hp hp' hv1 hv2 hg hg'
    obtain ⟨m1, q1⟩ := hpres b hp
    obtain ⟨m2, q2⟩ := hpres b' hp'
    rw [if_pos m1] at hv1
    rw [if_pos m2] at hv2
    exact noDup_inj hn b b' m1 m2 (h.mem.sep _ _ v v' g q1 q2 hv1 hv2 hg hg')
  · intro b v g hp hv1 hg
    obtain ⟨m1, q1⟩ := hpres b hp
    rw [if_pos m1] at hv1
    exact h.mem.own _ v g q1 hv1 hg
  · intro b v hv1
    by_cases hm : b ∈ namesOf vars arrs
    · rw [if_pos hm] at hv1; exact h.mem.one _ v hv1
    · rw [if_neg hm] at hv1; cases hv1
  · intro b v g hp hv1 hg
    obtain ⟨m1, q1⟩ := hpres b hp
    rw [if_pos m1] at hv1
    exact h.lo _ v g q1 hv1 hg
  · intro t
    exact (hr.at_ t).den (h.regs t)

theorem W.prune {c : Code} {regs : List (Nat × SV)} {vars : List (Nat × TypeId × List SV)} {arrs : List (Nat × Arr)} (hr : RegsOk st id (namesOf vars arrs) regs) (hv : VarsOk st id (namesOf vars arrs) vars)
    (ha : ArrsOk st id arrs) (hn : noDup ((namesOf vars arrs).map id) = true) (hpin : PinOk M id (namesOf vars arrs)) (h : W P w0 M N F0 c (mkSt regs vars arrs) Q) : W P w0 M N F0 c st Q := W.le (Le.mk id hr hv ha hn hpin) h

/-! ### A function's contract -/
def argsR : List SV → Nat → SV
  | [], _ => .val undef
  | s :: _, 0 => s
  | _ :: r, n + 1 => argsR r n
def initSt (args : List SV) : St := { r := argsR args, c := fun _ _ => .any, v := fun _ => none, a := fun _ => none, d := fun _ => false }

def ResOne (P : Program) (st : St) : ResultVar → SV → Prop
  | .tmp t, s => st.r t = s
  | .cell t ty, s => ∃ b o k tyb cs, st.r t = .ptr b o ∧ st.v b = some (tyb, k) ∧ aggT P ty cs.length ∧ o + cs.length ≤ k ∧ CellsAre st b o cs ∧ s = .agg cs
def ResL (P : Program) (st : St) : List ResultVar → List SV → Prop
  | [], [] => True
  | r :: l, s :: t => ResOne P st r s ∧ ResL P st l t
  | _, _ => False
def resOf : List SV → SV
  | [s] => s
  | l => .tup l

theorem argsR_spec {F : Nat → Prop} {w : World} {ρ : Env} {n : Nat} : ∀ {args : List SV} {vs : List Value}, args.length = vs.length → (∀ (i : Nat) (s : SV) (v : Value), args[i]? = some s → vs[i]? = some v → Den F w ρ s v) →
    ∀ t, Den F w ρ (argsR args t) ((vs.toArray ++ Array.replicate n undef).getD t undef)
  | [], [], _, _, t => by
    have : ((([] : List Value).toArray ++ Array.replicate n undef).getD t undef) = undef := by
      simp [Array.getD_eq_getD_getElem?, Array.getElem?_replicate]
      split <;> rfl
    rw [this]; exact .val _
  | s :: r, v :: l, hl, h, t => by
    cases t with
    | zero =>
      have : ((v :: l).toArray ++ Array.replicate n undef).getD 0 undef = v := by simp only [Array.getD_eq_getD_getElem?, ← Array.getElem?_toList, Array.toList_append, List.cons_append, List.getElem?_cons_zero, Option.getD_some]
      rw [this]; exact h 0 s v rfl rfl
    | succ t =>
      have ih := argsR_spec (n := n) (args := r) (vs := l) (by simpa using hl) (fun i s v hs hv => h (i + 1) s v (by simpa using hs) (by simpa using hv)) t
      have : ((v :: l).toArray ++ Array.replicate n undef).getD (t + 1) undef = (l.toArray ++ Array.replicate n undef).getD t undef := by
        simp only [Array.getD_eq_getD_getElem?]
        congr 1
        simp only [← Array.getElem?_toList, Array.toList_append, List.cons_append, List.getElem?_cons_succ]
      rw [this]; exact ih
  | [], _ :: _, hl, _, _ => by simp at hl
  | _ :: _, [], hl, _, _ => by simp at hl

theorem run_results {F : Nat → Prop} {ρ : Env} {a : Act} {w : World} {M : Mod} (h : Rel' w0 M N F ρ st a w) : ∀ {rs : List ResultVar} {ss : List SV}, ResL P st rs ss →
    ∃ vs : List Value, ss.length = vs.length ∧ (∀ (i : Nat) (s : SV) (v : Value), ss[i]? = some s → vs[i]? = some v → Den F w ρ s v) ∧
      (rs.mapM (m := Sem) fun | .tmp t => pure (a.tmps.getD t undef) | .cell t ty => do loadVar ty (← asAddr (a.tmps.getD t undef))).run P w = .ok vs w
  | [], [], _ => ⟨[], rfl, fun i s v hs => by simp at hs, rfl⟩
  | r :: l, s :: t, ⟨h0, h1⟩ => by
    obtain ⟨vs, e1, e2, e3⟩ := run_results h h1
    have h2 : ∃ v, Den F w ρ s v ∧ (match r with | .tmp t => (pure (a.tmps.getD t undef) : Sem Value) | .cell t ty => do loadVar ty (← asAddr (a.tmps.getD t undef))).run P w = .ok v w := by
      cases r with
      | tmp t => exact ⟨_, by have h0' : st.r t = s := h0; rw [← h0']; exact h.regs t, rfl⟩
      | cell t ty =>
        obtain ⟨b, o, k, tyb, cs, a1, a2, a3, a4, a5, rfl⟩ := h0
        have hreg := h.regs t
        rw [a1] at hreg
        generalize hx : a.tmps.getD t undef = v at hreg
        cases hreg with
        | ptr hρ =>
          rename_i g
          obtain ⟨g', arr, b1, b2, b3, b4⟩ := h.mem.var b tyb k a2
          rw [hρ] at b1; injection b1 with b1; injection b1 with b1; injection b1 with b1; injection b1 with b1; subst b1
          have hvs : ∀ j v, ((arr.toList.drop o).take cs.length)[j]? = some v → j < cs.length ∧ arr[o + j]? = some v := by
            intro j v hj
            rw [List.getElem?_take] at hj
            split at hj
            · exact ⟨by assumption, by simpa using hj⟩
            · cases hj
          have hl : ((arr.toList.drop o).take cs.length).length = cs.length := by simp; omega
          refine ⟨.agg ((arr.toList.drop o).take cs.length).toArray, .agg hl.symm fun j s v hs hv => ?_, ?_⟩
          · obtain ⟨_, hj⟩ := hvs j v hv
            have := (b4 (o + j) v hj).1
            rwa [a5.at_ j s hs] at this
          · have hr := run_loadAgg (P := P) (w := w) a3 (ad := ⟨g, o, none⟩) hl (fun j v hj => by
              rw [Addr.add_lit, cell_of_row w g (o + j) arr tyb (0, 0) b2]; exact (hvs j v hj).2)
            simp only [hx, asAddr, Sem.run_bind, Sem.run_pure, Result.andThen_ok, hr]
    obtain ⟨v, hv, hr⟩ := h2
    refine ⟨v :: vs, by simp [e1], fun i s' v' hs' hv' => ?_, ?_⟩
    · cases i with
      | zero => simp at hs' hv'; subst hs' hv'; exact hv
      | succ i => exact e2 i s' v' (by simpa using hs') (by simpa using hv')
    · rw [List.mapM_cons, Sem.run_bind]
      have hr' := hr
      rw [hr']
      simp only [Result.andThen_ok, Sem.run_bind, e3, Sem.run_pure]
  | [], _ :: _, h => h.elim
  | _ :: _, [], h => h.elim


def RetQ (P : Program) (rs : List ResultVar) (res : SV) : Exit → St → Prop
  | .ret, st | .normal, st => ∃ ss, ResL P st rs ss ∧ res = resOf ss ∧ closedS res = true
  | _, _ => False

theorem RetQ.mk {rs : List ResultVar} {ss : List SV} {res : SV} (h : ResL P st rs ss) (hr : res = resOf ss) (hc : closedS res = true) : RetQ P rs res .ret st := ⟨ss, h, hr, hc⟩

theorem init_rel {fn : Func} {args : List SV} {vs : List Value} {F : Nat → Prop} {w : World} (hlen : args.length = vs.length) (hden : ∀ (i : Nat) (s : SV) (v : Value), args[i]? = some s → vs[i]? = some v → Den F w Env.none s v) (hfb : ∀ g, F g → g < w.heap.size)
    (hN : fn.ntmps = N) (hl : args.length ≤ N) : Rel' w Mod.none N F Env.none (initSt args) { tmps := vs.toArray ++ Array.replicate (fn.ntmps - vs.toArray.size) undef, defers := [] } w := by
  refine ⟨Fr.refl w _, ⟨fun _ _ => rfl, (fun b ty k h => by cases h), (fun b A h => by cases h), ?_, ?_, hfb, fun _ _ h => by cases h⟩, ?_, ?_, ?_, rfl, fun b g h => by cases h⟩
  · rintro b b' v v' g (hp | hp) <;> exact absurd rfl hp
  · rintro b v g (hp | hp) <;> exact absurd rfl hp
  · rintro b v g (hp | hp) <;> exact absurd rfl hp
  · exact argsR_spec hlen hden
  · simp only [Array.size_append, List.size_toArray, Array.size_replicate]; omega

theorem results_of {fn : Func} {F' : Nat → Prop} {ρ' : Env} {M : Mod} {st' : St} {a' : Act} {w' : World} {ss : List SV} {res : SV} (hr : Rel' w0 M N F' ρ' st' a' w') (h1 : ResL P st' fn.results.toList ss) (h2 : res = resOf ss) (h3 : closedS res = true) :
    ∃ v, (results fn a'.tmps).run P w' = .ok v w' ∧ Den F' w' Env.none res v := by
  subst h2
  obtain ⟨vs', e1, e2, e3⟩ := run_results (P := P) hr h1
  refine ⟨(if h : vs'.length = 1 then vs'[0] else .tuple vs'.toArray), ?_, ?_⟩
  · unfold results
    rw [Sem.run_bind, Array.mapM_eq_mapM_toList, Sem.run_map]
    refine Eq.trans (congrArg (fun r => Result.andThen (Result.andThen r _) _) e3) ?_
    simp
  · refine Den.closed (ρ := ρ') ?_ h3
    by_cases hone : vs'.length = 1
    · rw [dif_pos hone]
      obtain ⟨v, rfl⟩ := List.length_eq_one_iff.1 hone
      obtain ⟨s, rfl⟩ := List.length_eq_one_iff.1 e1
      exact e2 0 s v rfl rfl
    · rw [dif_neg hone]
      have : resOf ss = .tup ss := by
        match ss, e1 with
        | [], _ => rfl
        | [s], e1 => simp at e1; exact absurd e1.symm hone
        | _ :: _ :: _, _ => rfl
      rw [this]
      exact .tup e1 e2

theorem FnC.intro {f : FuncId} {fn : Func} {c : Code} {args : List SV} {res : SV} (N : Nat) (hf : P.funcs[f]? = some fn) (hb : fn.body = some c) (hname : (fn.name == "runtime.NumGoroutine") = false) (hN : fn.ntmps = N) (hl : args.length ≤ N)
    (h : ∀ (w : World) (F : Nat → Prop), W P w Mod.none N F c (initSt args) (RetQ P fn.results.toList res)) : FnC P f args res := by
  refine ⟨⟨fn, hf, hname, by rw [hb]; rfl⟩, fun F w vs hlen hden hfb => ?_⟩
  refine calls_of_wp hf hb ?_
  refine Code.wp_mono ?_ (h w F _ w ⟨F, Env.none, init_rel hlen hden hfb hN hl, fun _ h => h, fun _ h => .inl h⟩)
  rintro e a' w' ⟨st', hq, F', ρ', hr, hF1, hF2⟩
  have fin : (∃ ss, ResL P st' fn.results.toList ss ∧ res = resOf ss ∧ closedS res = true) → a'.defers = [] ∧ ∃ v, (results fn a'.tmps).run P w' = .ok v w' ∧ ∃ r F', Ending.returned v = .returned r ∧ Fr w (fun _ => False) w' ∧ (∀ g, F g → F' g) ∧ (∀ g, F' g → F g ∨ w.heap.size ≤ g) ∧ (∀ g, F' g → g < w'.heap.size) ∧ Den F' w' Env.none res r := by
    rintro ⟨ss, h1, h2, h3⟩
    obtain ⟨v, e1, e2⟩ := results_of hr h1 h2 h3
    exact ⟨hr.df, v, e1, v, F', rfl, hr.fr, hF1, fun g hg => (hF2 g hg).elim .inl fun h => h.elim False.elim .inr, hr.mem.fb, e2⟩
  cases e with
  | ret => exact fin hq
  | normal => exact fin hq
  | _ => exact hq.elim

theorem FnC.res {f : FuncId} {args : List SV} {res res' : SV} (h : FnC P f args res) (e : res = res') : FnC P f args res' := e ▸ h

end
end Go.Sp
