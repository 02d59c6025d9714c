/- The engine, part A: symbolic values and states, and what they say of a frame and a world. No condition. -/
import Derived.WalkKit
import Derived.WalkLawsBesides
namespace Go.Sp
open Go Go.RowKit

/-- Symbolic values. 'ptr b o': cell o of the variable named b. 'own b': the slice that is the whole array named b. 'ael b k i o': a pointer to cell o of element i of that array. 'sl k n g': a slice that is only read, of n elements of k cells. 'sel': a pointer into it. 'when c s': s where c is true. -/
inductive SV where
  | val (v : Value)
  | any
  | ptr (b o : Nat)
  | ael (b k i o : Nat)
  | own (b : Nat)
  | sl (k n : Nat) (g : Nat → Nat → SV)
  | sel (k n : Nat) (g : Nat → Nat → SV) (i o : Nat)
  | agg (cs : List SV)
  | tup (cs : List SV)
  | when (c : Bool) (s : SV)
  | clo (f : FuncId) (cs : List SV)

abbrev SV.i (n : Int) : SV := .val (.int .i64 n)
abbrev SV.b (x : Bool) : SV := .val (.bool x)
abbrev SV.s (x : ByteArray) : SV := .val (.string x)

abbrev Env := Nat → Option Value
def Env.none : Env := fun _ => .none

/-- What a symbolic value says of a value: F, the blocks that are only read; w, the world. -/
inductive Den (F : Nat → Prop) (w : World) : Env → SV → Value → Prop
  | val {ρ} (v : Value) : Den F w ρ (.val v) v
  | any {ρ} (v : Value) : Den F w ρ .any v
  | ptr {ρ b o g} : ρ b = some (.pointer (some ⟨g, 0, none⟩)) → Den F w ρ (.ptr b o) (.pointer (some ⟨g, o, none⟩))
  | ael {ρ b k i o g n cap} : ρ b = some (.slice (some ⟨g, 0, none⟩) n cap) → Den F w ρ (.ael b k i o) (.pointer (some ⟨g, i * k + o, none⟩))
  | own {ρ b v} : ρ b = some v → Den F w ρ (.own b) v
  | nilsl {ρ k g c} : Den F w ρ (.sl k 0 g) (.slice none 0 c)
  | sl {ρ k n g ad cap} (cell : Nat → Nat → Value) : F ad.block → n ≤ cap → cap ≤ maxLen →
      (∀ i j, i < n → j < k → w.cell? (ad.add (i * k + j)) = some (cell i j)) →
      (∀ i j, i < n → j < k → (cell i j).oneCell' = true) →
      (∀ i j, i < n → j < k → Den F w Env.none (g i j) (cell i j)) → Den F w ρ (.sl k n g) (.slice (some ad) n cap)
  | sel {ρ k n g i o ad cap} : Den F w Env.none (.sl k n g) (.slice (some ad) n cap) → i < n → Den F w ρ (.sel k n g i o) (.pointer (some (ad.add (i * k + o))))
  | agg {ρ} {ss : List SV} {vs : List Value} : ss.length = vs.length → (∀ (i : Nat) (s : SV) (v : Value), ss[i]? = some s → vs[i]? = some v → Den F w ρ s v) → Den F w ρ (.agg ss) (.agg vs.toArray)
  | tup {ρ} {ss : List SV} {vs : List Value} : ss.length = vs.length → (∀ (i : Nat) (s : SV) (v : Value), ss[i]? = some s → vs[i]? = some v → Den F w ρ s v) → Den F w ρ (.tup ss) (.tuple vs.toArray)
  | when {ρ} {c : Bool} {s : SV} {v : Value} : (c = true → Den F w ρ s v) → (c = false → v = undef) → Den F w ρ (.when c s) v
  | clo {ρ} {f : FuncId} {ss : List SV} {vs : List Value} : ss.length = vs.length → (∀ (i : Nat) (s : SV) (v : Value), ss[i]? = some s → vs[i]? = some v → Den F w ρ s v) → Den F w ρ (.clo f ss) (.func (.func f) #[] vs.toArray)

theorem block_add (a : Addr) (n : Nat) : (a.add n).block = a.block := by unfold Addr.add; split <;> rfl

theorem Den.mono {F F' : Nat → Prop} {w w' : World} {ρ : Env} {s : SV} {v : Value} (h : Den F w ρ s v) :
    (∀ g, F g → F' g) → (∀ ad : Addr, F ad.block → w'.cell? ad = w.cell? ad) → ∀ ρ' : Env, (∀ b x, ρ b = some x → ρ' b = some x) → Den F' w' ρ' s v := by
  induction h with
  | val v => intro _ _ ρ' _; exact .val v
  | any v => intro _ _ ρ' _; exact .any v
  | ptr h => intro _ _ ρ' hρ; exact .ptr (hρ _ _ h)
  | ael h => intro _ _ ρ' hρ; exact .ael (hρ _ _ h)
  | own h => intro _ _ ρ' hρ; exact .own (hρ _ _ h)
  | nilsl => intro _ _ ρ' _; exact .nilsl
  | sl cell hF hn hc hcell h1 _ ih =>
    intro hFF hw ρ' _
    exact .sl cell (hFF _ hF) hn hc (fun i j hi hj => (hw _ (by rw [block_add]; exact hF)).trans (hcell i j hi hj)) h1 (fun i j hi hj => ih i j hi hj hFF hw _ (fun _ _ h => h))
  | sel _ hi ih => intro hFF hw ρ' _; exact .sel (ih hFF hw _ (fun _ _ h => h)) hi
  | agg hl _ ih => intro hFF hw ρ' hρ; exact .agg hl (fun i s v hs hv => ih i s v hs hv hFF hw ρ' hρ)
  | tup hl _ ih => intro hFF hw ρ' hρ; exact .tup hl (fun i s v hs hv => ih i s v hs hv hFF hw ρ' hρ)
  | when _ hu ih => intro hFF hw ρ' hρ; exact .when (fun hc => ih hc hFF hw ρ' hρ) hu
  | clo hl _ ih => intro hFF hw ρ' hρ; exact .clo hl (fun i s v hs hv => ih i s v hs hv hFF hw ρ' hρ)

/-- The block of a pointer or of a slice. -/
def blkOf : Value → Option Nat
  | .pointer (some a) => some a.block
  | .slice (some a) _ _ => some a.block
  | _ => none

structure Arr where
  ty : TypeId
  k : Nat
  n : Nat
  g : Nat → Nat → SV

/-- A symbolic state: slots; cells of variables; which variables there are (type, cells); which arrays; which names are taken. -/
structure St where
  r : Nat → SV
  c : Nat → Nat → SV
  v : Nat → Option (TypeId × Nat)
  a : Nat → Option Arr
  d : Nat → Bool

def St.present (st : St) (b : Nat) : Prop := st.v b ≠ none ∨ st.a b ≠ none

/-- The world is as w0 was, but for the blocks M and for new ones. -/
structure Fr (w0 : World) (M : Nat → Prop) (w : World) : Prop where
  os : w.os = w0.os
  tape : w.tape = w0.tape
  output : w.output = w0.output
  size : w0.heap.size ≤ w.heap.size
  blk : ∀ g, g < w0.heap.size → ¬ M g → w.heap[g]? = w0.heap[g]?

theorem Fr.refl (w : World) (M : Nat → Prop) : Fr w M w := ⟨rfl, rfl, rfl, Nat.le_refl _, fun _ _ _ => rfl⟩

/-- What a memory says of a world. -/
structure MemOk (F : Nat → Prop) (w : World) (ρ : Env) (st : St) : Prop where
  dom : ∀ b, st.d b = false → ρ b = none
  var : ∀ b ty k, st.v b = some (ty, k) → ∃ g arr, ρ b = some (.pointer (some ⟨g, 0, none⟩)) ∧ w.heap[g]? = some (.cells arr ty (0, 0)) ∧ arr.size = k ∧
    ∀ j x, arr[j]? = some x → Den F w ρ (st.c b j) x ∧ x.oneCell' = true
  arr : ∀ b A, st.a b = some A → ∃ v xs, ρ b = some v ∧ w.ownsRow 0 A.ty A.k v A.n xs ∧
    ∀ i j, i < A.n → j < A.k → ∃ x, xs[i * A.k + j]? = some x ∧ Den F w Env.none (A.g i j) x ∧ x.oneCell' = true
  sep : ∀ b b' v v' g, st.present b → st.present b' → ρ b = some v → ρ b' = some v' → blkOf v = some g → blkOf v' = some g → b = b'
  own : ∀ b v g, st.present b → ρ b = some v → blkOf v = some g → ¬ F g
  fb : ∀ g, F g → g < w.heap.size
  one : ∀ b v, ρ b = some v → v.oneCell' = true

/-- What a call may write to: blocks of its caller, and the names that it has for them. -/
structure Mod where
  blk : Nat → Prop
  pin : Nat → Option Value
def Mod.none : Mod := ⟨fun _ => False, fun _ => .none⟩
def Mod.one (b g : Nat) : Mod := ⟨fun x => x = g, fun x => if x = b then some (.pointer (some ⟨g, 0, Option.none⟩)) else .none⟩

structure Rel' (w0 : World) (M : Mod) (N : Nat) (F : Nat → Prop) (ρ : Env) (st : St) (a : Act) (w : World) : Prop where
  fr : Fr w0 M.blk w
  mem : MemOk F w ρ st
  lo : ∀ b v g, st.present b → ρ b = some v → blkOf v = some g → M.blk g ∨ w0.heap.size ≤ g
  regs : ∀ t, Den F w ρ (st.r t) (a.tmps.getD t undef)
  sz : a.tmps.size = N
  df : a.defers = []
  pin : ∀ b v, M.pin b = some v → ρ b = some v

/-- The same, F at least as great as F0 (what was read at the call's begin). -/
def Rel (w0 : World) (M : Mod) (N : Nat) (F0 : Nat → Prop) (st : St) (a : Act) (w : World) : Prop :=
  ∃ F ρ, Rel' w0 M N F ρ st a w ∧ (∀ g, F0 g → F g) ∧ (∀ g, F g → F0 g ∨ M.blk g ∨ w0.heap.size ≤ g)

inductive Key where
  | r (t : Nat) | c (b o : Nat) | v (b : Nat) | a (b : Nat) | d (b : Nat)
  deriving DecidableEq

inductive Wr where
  | r (t : Nat) (s : SV) | c (b o : Nat) (s : SV) | v (b : Nat) (x : Option (TypeId × Nat)) | a (b : Nat) (x : Option Arr) | d (b : Nat)

def Wr.key : Wr → Key
  | .r t _ => .r t | .c b o _ => .c b o | .v b _ => .v b | .a b _ => .a b | .d b => .d b

def St.put (st : St) : Wr → St
  | .r t s => { st with r := fun x => bif Nat.beq x t then s else st.r x }
  | .c b o s => { st with c := fun x y => bif Nat.beq x b && Nat.beq y o then s else st.c x y }
  | .v b i => { st with v := fun x => bif Nat.beq x b then i else st.v x }
  | .a b i => { st with a := fun x => bif Nat.beq x b then i else st.a x }
  | .d b => { st with d := fun x => bif Nat.beq x b then true else st.d x }

def St.app (st : St) : List Wr → St
  | [] => st
  | x :: l => (st.put x).app l

def agree (st st' : St) : Key → Prop
  | .r t => st.r t = st'.r t
  | .c b o => st.c b o = st'.c b o
  | .v b => st.v b = st'.v b
  | .a b => st.a b = st'.a b
  | .d b => st.d b = st'.d b

theorem St.ext' {st st' : St} (h : ∀ κ, agree st st' κ) : st = st' := by
  obtain ⟨r, c, v, a, d⟩ := st
  obtain ⟨r', c', v', a', d'⟩ := st'
  have h1 : r = r' := funext fun t => h (.r t)
  have h2 : c = c' := funext fun b => funext fun o => h (.c b o)
  have h3 : v = v' := funext fun b => h (.v b)
  have h4 : a = a' := funext fun b => h (.a b)
  have h5 : d = d' := funext fun b => h (.d b)
  subst h1 h2 h3 h4 h5
  rfl

/-- What a symbolic state is asked of a slot or a constant. -/
def Ev (st : St) (x : Operand) (s : SV) : Prop :=
  match x with
  | .tmp t => st.r t = s
  | .const v => s = .val v
  | .func f => s = .val (.func (.func f) #[] #[])
  | .global _ => False

def opKeys : Operand → List Key
  | .tmp t => [.r t]
  | _ => []

/-- One operation: where 'pre' holds, it runs to its end, and the state is then as 'wr' says. -/
def RT (P : Program) (w0 : World) (M : Mod) (N : Nat) (F0 : Nat → Prop) (ops : Array Oper) (o : Oper) (pre : St → Prop) (wr : List Wr) : Prop :=
  ∀ st, pre st → ∀ a w, Rel w0 M N F0 st a w →
    if Region.wanted o (yielded ops a.tmps) then o.wp P a w (fun a' w' => Rel w0 M N F0 (st.app wr) a' w') (fun _ _ _ => False)
    else Rel w0 M N F0 (st.app wr) (a.put o.dst undef) w

def Dep (pre : St → Prop) (rd : List Key) : Prop := ∀ st st', (∀ κ ∈ rd, agree st st' κ) → pre st → pre st'

end Go.Sp
