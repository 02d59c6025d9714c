/- The second engine, part Z: how a law's arguments are read, more kinds. No condition. -/
import Derived.Test.YtpgigbdefbeagaaGreatDoorSqY
namespace Go.Sq
open Go Go.RowKit Go.ChangeShapes Go.WideShapes
section
variable {H : Type} {enc : TypeId × Value → H} {P : Program}
/-! ### Any data among a law's arguments -/
mutual
inductive HasTy (P : Program) : Ty → TypeId → Prop
 | int {t : TypeId} {k : IntKind} : P.underlying t = some (.int k) → HasTy P (.int k) t
 | bool {t : TypeId} : P.underlying t = some .bool → HasTy P .bool t
 | str {t : TypeId} : P.underlying t = some .string → HasTy P .str t
 | sl {t te : TypeId} {e : Ty} : P.underlying t = some (.slice te) → P.cellsOf te = e.size → 0 < e.size → HasTy P e te → HasTy P (.sl e) t
 | struct {t : TypeId} {fs : Array Field} {a b : Ty} : P.underlying t = some (.struct fs) → P.cellsOf t = (Ty.pair a b).size → HasFs P (.pair a b) fs.toList 0 → HasTy P (.pair a b) t
inductive HasFs (P : Program) : Ty → List Field → Nat → Prop
 | one {a : Ty} {f : Field} {o : Nat} : f.offset = o → P.cellsOf f.type = a.size → HasTy P a f.type → HasFs P (.pair a .unit) [f] o
 | two {a b : Ty} {f g : Field} {o : Nat} : f.offset = o → P.cellsOf f.type = a.size → HasTy P a f.type → g.offset = o + a.size → P.cellsOf g.type = b.size → HasTy P b g.type → HasFs P (.pair a b) [f, g] o
 | more {a b : Ty} {f g h : Field} {r : List Field} {o : Nat} : f.offset = o → P.cellsOf f.type = a.size → HasTy P a f.type → HasFs P b (g :: h :: r) (o + a.size) → HasFs P (.pair a b) (f :: g :: h :: r) o
end
def WfT : (τ : Ty) → τ.den → Prop
 | .int k, n => (Lit.int k n).wf = true
 | .str, l => List.length (α := UInt8) l ≤ maxLen
 | .sl e, l => List.length (α := e.den) l ≤ maxLen ∧ ∀ x, List.Mem (α := e.den) x l → WfT e x
 | .pair a b, x => WfT a x.1 ∧ WfT b x.2
 | _, _ => True
theorem qsj {A : Type} {n : Nat} {Q : Nat → A → Prop} (h : ∀ i, i < n → ∃ x, Q i x) : ∃ l : List A, l.length = n ∧ ∀ i x, l[i]? = some x → Q i x := by
 induction n with
 | zero => exact ⟨[], rfl, fun i x hx => by simp at hx⟩
 | succ n ih =>
  obtain ⟨l, h1, h2⟩ := ih fun i hi => h i (by omega)
  obtain ⟨x, hx⟩ := h n (by omega)
  refine ⟨l ++ [x], by simp [h1], fun i y hy => ?_⟩
  by_cases hi : i < n
  ·rw [List.getElem?_append_left (by omega)] at hy; exact h2 i y hy
  ·rw [List.getElem?_append_right (by omega)] at hy
   have hi2 : i - l.length = 0 := by
    have := (List.getElem?_eq_some_iff.1 hy).1
    simpa using this
   rw [hi2] at hy
   simp at hy
   subst hy
   rwa [show i = n by omega]
theorem qsk {W : World} {held : Bool} : ∀ {fuel : Nat} {τ : Ty} {t : TypeId} {cs : List Value} {y : DataW H × List MemPlace}, HasTy P τ t → DataW.trod enc P W 0 (fun _ => true) held fuel t cs = some y →
  ∃ x : τ.den, RdC (fun g => g < W.heap.size) W τ x cs ∧ WfT τ x := by
 intro fuel
 induction fuel using Nat.strongRecOn with
 | _ fuel ih =>
 intro τ t cs y ht h
 cases ht with
 | int hu =>
  obtain ⟨x, h1, _, h2⟩ := DataW.trod_int hu h
  exact ⟨x, h1, h2⟩
 | bool hu =>
  obtain ⟨x, h1, _⟩ := DataW.trod_bool hu h
  exact ⟨x, h1, trivial⟩
 | str hu =>
  obtain ⟨s, h1, _, h2⟩ := DataW.trod_string hu h
  refine ⟨s.data.toList, h1, ?_⟩
  show s.data.toList.length ≤ maxLen
  rw [Array.length_toList]; exact h2
 | @sl _ te e hu hc hpos he =>
  rcases DataW.trod_slice hu h with ⟨rfl, _⟩ | ⟨a, len, cap, elems, rest, n, hn, rfl, rfl, hb, hl, hm, hlen, hel, hsp, _⟩
  ·exact ⟨[], ⟨none, 0, rfl, rfl⟩, ⟨Nat.zero_le _, fun x hx => by cases hx⟩⟩
  ·have each : ∀ i, i < len → ∃ x : e.den, (∃ es, RdC (fun g => g < W.heap.size) W e x es ∧ ∀ j v, es[j]? = some v → W.cell? (a.add (i * e.size + j)) = some v) ∧ WfT e x := by
    intro i hi
    have h1 := hel i hi
    rw [List.getElem?_eq_getElem (by omega), Option.bind_eq_some_iff] at h1
    obtain ⟨es, h2, h3⟩ := h1
    obtain ⟨x, h4, h5⟩ := ih n (by omega) he h3
    refine ⟨x, ⟨es, h4, fun j v hj => ?_⟩, h5⟩
    obtain ⟨_, h6, h7⟩ := World.cells?_some h2
    have hj2 : j < P.cellsOf te := by rw [← h6]; exact (List.getElem?_eq_some_iff.1 hj).1
    have := h7 j hj2
    rw [hj, hc, qh0] at this
    exact this
   obtain ⟨l, l1, l2⟩ := qsj each
   have hblk : 0 < cap → a.block < W.heap.size := by
    intro hcap
    have hread : ∀ (i : Nat) {r : Option (DataW H × List MemPlace)} {z : DataW H × List MemPlace}, ((W.cells? 0 (a.add (i * P.cellsOf te)) (P.cellsOf te)).bind (DataW.trod enc P W 0 (fun _ => true) held n te)) = r → r = some z → a.block < W.heap.size := by
     intro i r z h1 h2
     rw [h2, Option.bind_eq_some_iff] at h1
     obtain ⟨es, h3, _⟩ := h1
     obtain ⟨_, h6, h7⟩ := World.cells?_some h3
     have h8 := h7 0 (by omega)
     have h9 : 0 < es.length := by omega
     rw [List.getElem?_eq_getElem h9] at h8
     have := World.block_lt_of_cell? W _ h8
     rw [qem, qem] at this
     exact this
    by_cases h0 : 0 < len
    ·exact hread 0 (hel 0 h0) (List.getElem?_eq_getElem (by omega))
    ·obtain ⟨h1, h2⟩ := hsp rfl
     exact hread (len + 0) (h2 0 (by omega)) (List.getElem?_eq_getElem (by omega))
   have hll : [Value.slice (some a) len cap] = [Value.slice (some a) l.length cap] := by rw [l1]
   refine ⟨l, ⟨some a, cap, hll, hblk, by rw [l1]; exact hl, hm, fun i x hx => (l2 i x hx).1⟩, ⟨by rw [l1]; exact Nat.le_trans hl hm, fun x hx => ?_⟩⟩
   obtain ⟨i, hi⟩ := List.getElem?_of_mem hx
   exact (l2 i x hi).2
 | @struct _ fs a b hu hsz hfs =>
  obtain ⟨xs, n, hn, _, hl, hlen, hf⟩ := DataW.trod_struct hu h
  have key : ∀ {τ : Ty} {l : List Field} {o k : Nat}, HasFs P τ l o → (∀ i f, l[i]? = some f → fs.toList[k + i]? = some f) → o + τ.size ≤ cs.length → ∃ x : τ.den, RdC (fun g => g < W.heap.size) W τ x ((cs.drop o).take τ.size) ∧ WfT τ x := by
   intro τ l
   have fld : ∀ {a : Ty} {f : Field} {o i : Nat}, f.offset = o → P.cellsOf f.type = a.size → HasTy P a f.type → fs.toList[i]? = some f → ∃ x : a.den, RdC (fun g => g < W.heap.size) W a x ((cs.drop o).take a.size) ∧ WfT a x := by
    intro a f o i h1 h2 h3 h4
    have h5 := hf i f (by simpa using h4)
    have hi : i < xs.length := by
     rw [hlen]
     have := (List.getElem?_eq_some_iff.1 h4).1
     simpa using this
    rw [List.getElem?_eq_getElem hi] at h5
    obtain ⟨x, h6, h7⟩ := ih n (by omega) h3 h5
    rw [h1, h2] at h6
    exact ⟨x, h6, h7⟩
   have cut : ∀ {o a b : Nat}, (cs.drop o).take (a + b) = (cs.drop o).take a ++ (cs.drop (o + a)).take b := by
    intro o a b
    rw [List.take_add, List.drop_drop]
   induction l generalizing τ with
   | nil => intro o k h; cases h
   | cons f r ihl =>
    intro o k h hk hsz
    cases h with
    | one h1 h2 h3 =>
     obtain ⟨x, h4, h5⟩ := fld h1 h2 h3 (hk 0 f rfl)
     exact ⟨(x, ()), ⟨_, [], by rw [List.append_nil]; rfl, h4, rfl⟩, h5, trivial⟩
    | two h1 h2 h3 g1 g2 g3 =>
     obtain ⟨x, h4, h5⟩ := fld h1 h2 h3 (hk 0 f rfl)
     obtain ⟨z, h6, h7⟩ := fld g1 g2 g3 (hk 1 _ rfl)
     exact ⟨(x, z), ⟨_, _, cut, h4, h6⟩, h5, h7⟩
    | @more a b _ g h' r' _ h1 h2 h3 h8 =>
     obtain ⟨x, h4, h5⟩ := fld h1 h2 h3 (hk 0 f rfl)
     obtain ⟨z, h6, h7⟩ := ihl (k := k + 1) h8 (fun i q hq => by
      have := hk (i + 1) q (by simpa using hq)
      rwa [show k + 1 + i = k + (i + 1) by omega]) (by
      have : (Ty.pair a b).size = a.size + b.size := rfl
      omega)
     exact ⟨(x, z), ⟨_, _, cut, h4, h6⟩, h5, h7⟩
  obtain ⟨x, h1, h2⟩ := key (o := 0) (k := 0) hfs (fun i f hf => by simpa using hf) (by rw [hl, hsz]; omega)
  rw [List.drop_zero, List.take_of_length_le (by rw [hl, hsz]; exact Nat.le_refl _)] at h1
  exact ⟨x, h1, h2⟩
theorem qq5 {τ : Ty} {W : World} {r : Go.Reach} {b0 : Nat} {t : TypeId} {v : Value} {d : DataW H} {ps : List MemPlace} {held : Bool} (ht : HasTy P τ t) (hval : Value.okWide P W r b0 t v) (hd : DataW.Trod enc P W 0 (fun _ => true) held t v d ps) :
  ∃ x : τ.den, RdV (fun g => g < W.heap.size) W τ x v ∧ WfT τ x := by
 obtain ⟨fuel, hf⟩ := hd
 obtain ⟨x, h1, h2⟩ := qsk ht hf
 refine ⟨x, ⟨v.cells.toList, h1, ?_⟩, h2⟩
 cases ht with
 | int hu => obtain ⟨n, rfl⟩ := okWide_int hu hval; rfl
 | bool hu => obtain ⟨n, rfl⟩ := okWide_bool hu hval; rfl
 | str hu => obtain ⟨n, rfl⟩ := okWide_string hu hval; rfl
 | sl hu _ _ _ => obtain ⟨a, len, cap, rfl⟩ := okWide_slice hu hval; rfl
 | struct hu _ _ => obtain ⟨cs, rfl, _⟩ := okWide_struct hu hval; simp [mkV, Ty.agg, Value.cells]
end
/-! ### A computation that comes to something -/
def Ok {A : Type} (x : Option A) (Q : A → Prop) : Prop := ∃ a, x = some a ∧ Q a
theorem Ok.ret {A : Type} {a : A} {Q : A → Prop} (h : Q a) : Ok (some a) Q := ⟨a, rfl, h⟩
theorem Ok.bind {A B : Type} {x : Option A} {f : A → Option B} {Q : A → Prop} {R : B → Prop} (h : Ok x Q) (hf : ∀ a, Q a → Ok (f a) R) : Ok (x.bind f) R := by
 obtain ⟨a, rfl, ha⟩ := h
 exact hf a ha
theorem Ok.eq {A B : Type} {x : Option A} {a : A} {f : A → Option B} {R : B → Prop} (h : x = some a) (hf : Ok (f a) R) : Ok (x.bind f) R := by
 subst h; exact hf
theorem Ok.bif {A : Type} {c : Bool} {x y : Option A} {Q : A → Prop} (h : c = true → Ok x Q) (h' : c = false → Ok y Q) : Ok (bif c then x else y) Q := by
 cases c with
 | true => exact h rfl
 | false => exact h' rfl
theorem Ok.gd {A : Type} {c : Bool} {x : Option A} {Q : A → Prop} (hc : c = true) (h : Ok x Q) : Ok (Sq.gd c x) Q := by
 subst hc; exact h
theorem Ok.mono {A : Type} {x : Option A} {Q R : A → Prop} (h : Ok x Q) (hq : ∀ a, Q a → R a) : Ok x R := by
 obtain ⟨a, e, ha⟩ := h; exact ⟨a, e, hq a ha⟩
theorem Ok.elim {A B C : Type} {s : A ⊕ B} {f : A → Option C} {g : B → Option C} {Q : C → Prop} (h : ∀ a, s = .inl a → Ok (f a) Q) (h' : ∀ b, s = .inr b → Ok (g b) Q) : Ok (s.elim f g) Q := by
 cases s with
 | inl a => exact h a rfl
 | inr b => exact h' b rfl
theorem Ok.loop {σ ε : Type} {step : σ → Option (σ ⊕ ε)} {x : σ} (I : σ → Prop) (μ : σ → Nat) {Q : ε → Prop} (hx : I x) (h : ∀ x, I x → Ok (step x) (fun r => match r with | .inl y => I y ∧ μ y < μ x | .inr e => Q e)) : Ok (iter step x) Q := by
 refine qq2 I μ Q (fun x hx => ?_) hx
 obtain ⟨r, hr, hq⟩ := h x hx
 cases r with
 | inl y => exact .inr ⟨y, hr, hq.1, hq.2⟩
 | inr e => exact .inl ⟨e, hr, hq⟩
theorem Ok.true {x : Option Bool} (h : Ok x (fun b => b = true)) : x = some true := by
 obtain ⟨b, e, hb⟩ := h
 rw [e, hb]
end Go.Sq
