/- The second engine, part MA: maps that a call makes: entries are looked up, written, deleted, counted. No condition. -/
import Derived.Test.YtpgigbdefbeagaaGreatDoorSqM
namespace Go.Sq
open Go Go.RowKit Go.MapKept
def mins {K V : Type} (o : KO K) : List (K × V) → K → V → List (K × V)
 | [], x, y => [(x, y)]
 | p :: r, x, y => bif o.lt x p.1 then (x, y) :: p :: r else p :: mins o r x y
theorem qpi {K V : Type} (o : KO K) (x : K) (y : V) : ∀ (l : List (K × V)), ∃ i, mins o l x y = l.take i ++ (x, y) :: l.drop i
 | [] => ⟨0, rfl⟩
 | p :: r => by
  unfold mins
  cases o.lt x p.1 with
  | true => exact ⟨0, rfl⟩
  | false =>
   obtain ⟨i, h⟩ := qpi o x y r
   exact ⟨i + 1, by simp [h]⟩
def keyTy : TypeDesc → Ty → Bool
 | .int q, .int q' => decide (q = q')
 | .string, .str => true
 | .bool, .bool => true
 | _, _ => false
section
variable {P : Program} {F : Nat → Prop} {w : World} {k v : Ty} {d : TypeDesc}
theorem qmD {x : k.den} {u : Value} (h : keyTy d k = true) (hx : RdV F w k x u) : IsKey d u := by
 obtain ⟨cs, h1, rfl⟩ := hx
 unfold keyTy at h
 split at h
 ·cases h1; exact (of_decide_eq_true h).symm
 ·cases h1; trivial
 ·cases h1; trivial
 ·cases h
theorem qr9 {q : IntKind} {x y : Int} : (keyO (.int q)).eq x y = true ↔ Value.int q x = Value.int q y := by
 show decide (x = y) = true ↔ _
 rw [decide_eq_true_eq]
 exact ⟨fun e => by rw [e], fun e => by injection e⟩
theorem qsa {x y : List UInt8} : (keyO .str).eq x y = true ↔ Value.string ⟨⟨x⟩⟩ = Value.string ⟨⟨y⟩⟩ := by
 show decide (x = y) = true ↔ _
 rw [decide_eq_true_eq]
 exact ⟨fun e => by rw [e], fun e => by injection e with e; injection e with e; injection e⟩
theorem qqU {x y : Bool} : (keyO .bool).eq x y = true ↔ Value.bool x = Value.bool y := by
 show (x == y) = true ↔ _
 rw [beq_iff_eq]
 exact ⟨fun e => by rw [e], fun e => by injection e⟩
def Ty.key : Ty → Bool
 | .int _ | .str | .bool | .unit => true
 | .pair a b => a.key && b.key
 | _ => false
theorem qi4 : ∀ {k : Ty} {x y : k.den} {cs ds : List Value}, k.key = true → RdC F w k x cs → RdC F w k y ds → ((keyO k).eq x y = true ↔ cs = ds)
 | .int q, x, y, cs, ds, _, hx, hy => by
  cases hx; cases hy
  exact qr9.trans ⟨fun e => by rw [e], fun e => by injection e⟩
 | .str, x, y, cs, ds, _, hx, hy => by
  cases hx; cases hy
  exact qsa.trans ⟨fun e => by rw [e], fun e => by injection e⟩
 | .bool, x, y, cs, ds, _, hx, hy => by
  cases hx; cases hy
  exact qqU.trans ⟨fun e => by rw [e], fun e => by injection e⟩
 | .unit, x, y, cs, ds, _, hx, hy => by
  cases hx; cases hy
  exact ⟨fun _ => rfl, fun _ => rfl⟩
 | .pair a b, x, y, cs, ds, h, hx, hy => by
  simp only [Ty.key, Bool.and_eq_true] at h
  obtain ⟨c1, c2, rfl, h1, h2⟩ := hx
  obtain ⟨d1, d2, rfl, h3, h4⟩ := hy
  have e1 := h1.size
  have e2 := h3.size
  show ((keyO a).eq x.1 y.1 && (keyO b).eq x.2 y.2) = true ↔ _
  rw [Bool.and_eq_true, qi4 h.1 h1 h3, qi4 h.2 h2 h4]
  exact ⟨fun e => by rw [e.1, e.2], fun e => List.append_inj e (by omega)⟩
theorem qsb {k : Ty} {cs ds : List Value} (h1 : cs.length = k.size) (h2 : ds.length = k.size) : mkV k cs = mkV k ds ↔ cs = ds := by
 refine ⟨fun e => ?_, fun e => by rw [e]⟩
 unfold mkV at e
 cases hg : k.agg with
 | true =>
  rw [hg] at e; simp only [cond_true] at e
  injection e with e
  have := congrArg Array.toList e
  simpa using this
 | false =>
  rw [hg] at e; simp only [cond_false] at e
  have hs : k.size = 1 := by revert hg; cases k <;> intro hg <;> first | rfl | cases hg
  rw [hs] at h1 h2
  obtain ⟨c, rfl⟩ := List.length_eq_one_iff.1 h1
  obtain ⟨c', rfl⟩ := List.length_eq_one_iff.1 h2
  have e' : c = c' := e
  rw [e']
theorem qsP {x y : k.den} {u u' : Value} (h : k.key = true) (hx : RdV F w k x u) (hy : RdV F w k y u') : (keyO k).eq x y = true ↔ u = u' := by
 obtain ⟨cs, h1, rfl⟩ := hx
 obtain ⟨ds, h2, rfl⟩ := hy
 exact (qi4 h h1 h2).trans (qsb h1.size h2.size).symm
theorem qkE : ∀ {k : Ty}, k.key = true → ∀ x y, (keyO k).eq x y = eqb k x y
 | .int _, _, _, _ => rfl
 | .str, _, _, _ => rfl
 | .bool, _, _, _ => rfl
 | .unit, _, _, _ => rfl
 | .pair a b, h, x, y => by
  simp only [Ty.key, Bool.and_eq_true] at h
  show ((keyO a).eq x.1 y.1 && (keyO b).eq x.2 y.2) = (eqb a x.1 y.1 && eqb b x.2 y.2)
  rw [qkE h.1, qkE h.2]
theorem qsQ (n : Nat) (q : IntKind) (x : Int) : Instr.sameBits n (.int q x) (.int q x) = true := by cases n <;> simp [Instr.sameBits]
theorem qsR (n : Nat) (x : ByteArray) : Instr.sameBits n (.string x) (.string x) = true := by
 have : (x == x) = true := (bytes_beq x x).2 rfl
 cases n <;> simp [Instr.sameBits, this]
theorem qsc (n : Nat) (x : Bool) : Instr.sameBits n (.bool x) (.bool x) = true := by cases n <;> simp [Instr.sameBits]
theorem qf4 : ∀ {k : Ty} {x : k.den} {cs : List Value}, k.key = true → RdC F w k x cs → ∀ v ∈ cs, ∀ n, Instr.sameBits n v v = true
 | .int q, x, cs, _, hx => by cases hx; intro v hv n; rw [List.mem_singleton.1 hv]; exact qsQ n q x
 | .str, x, cs, _, hx => by cases hx; intro v hv n; rw [List.mem_singleton.1 hv]; exact qsR n _
 | .bool, x, cs, _, hx => by cases hx; intro v hv n; rw [List.mem_singleton.1 hv]; exact qsc n x
 | .unit, x, cs, _, hx => by cases hx; intro v hv; simp at hv
 | .pair a b, x, cs, h, hx => by
  simp only [Ty.key, Bool.and_eq_true] at h
  obtain ⟨c1, c2, rfl, h1, h2⟩ := hx
  intro v hv n
  rcases List.mem_append.1 hv with hv | hv
  ·exact qf4 h.1 h1 v hv n
  ·exact qf4 h.2 h2 v hv n
def scalD : TypeDesc → Bool
 | .bool | .int _ | .string => true
 | _ => false
def keyOk (Γ : List TI) (kj : TI) : Bool := keyTy kj.desc kj.τ || (match kj.desc with
 | .struct fs => eqT Γ 2 kj.t kj.τ && kj.τ.key && kj.τ.agg && fs.toList.all fun f => match look Γ f.type with
  | some i => scalD i.desc
  | none => false
 | _ => false)
structure KeyV (P : Program) (w : World) (kt : TypeId) (u : Value) : Prop where
 chk : ∀ e, (Instr.checkKey e 10000 kt u).run P w = .ok () w
 stay : (Instr.keyThatStays u u).run P w = .ok u w
theorem qpj {Γ : List TI} (hΓ : Tys P Γ) {t : TypeId} {τ : Ty} (h : eqT Γ 1 t τ = true) (hs : (match look Γ t with | some i => scalD i.desc | none => false) = true) {x : τ.den} {cs : List Value} (hx : RdC F w τ x cs) : ∃ d, P.underlying t = some d ∧ IsKey d (mkV τ cs) := by
 simp only [eqT] at h
 split at h
 ·cases h
 ·rename_i i hl
  rw [hl] at hs
  obtain ⟨hi, rfl⟩ := qag hΓ hl
  refine ⟨_, hi.und, ?_⟩
  rw [Bool.and_eq_true] at h
  obtain ⟨_, h⟩ := h
  split at h
  ·rename_i hd; rw [hd]; have := of_decide_eq_true h; subst this; cases hx; trivial
  ·rename_i hd; rw [hd]; have := of_decide_eq_true h; subst this; cases hx; exact rfl
  ·rename_i hd; rw [hd]; have := of_decide_eq_true h; subst this; cases hx; trivial
  ·rename_i hd; simp only [hd] at hs; cases hs
  ·rename_i hd; simp only [hd] at hs; cases hs
  ·cases h
theorem qlx {Γ : List TI} (hΓ : Tys P Γ) (e : Bool) {n : Nat} : ∀ {fs : List Field} {o : Nat} {τ : Ty}, eqFs (eqT Γ 1) fs o τ = true → (fs.all fun f => match look Γ f.type with
  | some i => scalD i.desc
  | none => false) = true → ∀ {x : τ.den} {cs cs1 : List Value}, RdC F w τ x cs → cs1.length = o →
   (forIn fs PUnit.unit (fun (f : Field) (_ : PUnit) => do
    if f.name ≠ "_" then
     let v ← part f.type (cs1 ++ cs).toArray f.offset
     Instr.checkKey e (n + 1) f.type v
     pure (ForInStep.yield PUnit.unit)
    else pure (ForInStep.yield PUnit.unit))).run P w = .ok PUnit.unit w
 | [], o, τ, h, hs, x, cs, cs1, hx, hc => by simp
 | f :: r, o, τ, h, hs, x, cs, cs1, hx, hc => by
  simp only [eqFs, Bool.and_eq_true, Bool.or_eq_true, Bool.not_eq_true'] at h
  simp only [List.all_cons, Bool.and_eq_true] at hs
  obtain ⟨⟨h1, h2⟩, h3⟩ := h
  have ho := Nat.eq_of_beq_eq_true h2
  have hn : f.name ≠ "_" := by simpa using h1
  rcases h3 with h3 | h3
  ·split at h3
   ·have hp := qeo (cs1 := cs1) (cs2 := []) hΓ h3 hx
    rw [List.append_nil, hc, ← ho] at hp
    obtain ⟨d, k1, k2⟩ := qpj hΓ h3 hs.1 hx
    simp only [List.forIn_cons, Sem.run_bind, hn, ne_eq, not_false_eq_true, if_true, Result.andThen_ok, hp, run_checkKey k1 k2, Sem.run_pure, List.forIn_nil]
   ·cases h3
  ·split at h3
   ·rename_i a b
    rw [Bool.and_eq_true] at h3
    obtain ⟨c1, c2, rfl, hx1, hx2⟩ := hx
    have hp := qeo (cs1 := cs1) (cs2 := c2) hΓ h3.1 hx1
    rw [hc, ← ho] at hp
    have e1 := hx1.size
    obtain ⟨d, k1, k2⟩ := qpj hΓ h3.1 hs.1 hx1
    have ih := qlx hΓ e (n := n) h3.2 hs.2 (cs1 := cs1 ++ c1) hx2 (by simp; omega)
    rw [List.append_assoc] at ih
    simp only [List.forIn_cons, Sem.run_bind, hn, ne_eq, not_false_eq_true, if_true, Result.andThen_ok, hp, run_checkKey k1 k2, Sem.run_pure]
    exact ih
   ·cases h3
theorem qrJ {Γ : List TI} {kj : TI} (hΓ : Tys P Γ) (hj : kj.ok P) (h : keyOk Γ kj = true) {x : kj.τ.den} {u : Value} (hx : RdV F w kj.τ x u) : KeyV P w kj.t u := by
 unfold keyOk at h
 rw [Bool.or_eq_true] at h
 rcases h with h | h
 ·have hu := qmD h hx
  exact ⟨fun e => run_checkKey hj.und hu e 9999, run_keyThatStays hu⟩
 ·split at h
  ·rename_i fs hd
   simp only [Bool.and_eq_true] at h
   obtain ⟨⟨⟨h1, h2⟩, h4⟩, h3⟩ := h
   obtain ⟨cs, hx1, rfl⟩ := hx
   have hm : mkV kj.τ cs = .agg cs.toArray := by unfold mkV; rw [h4]; rfl
   rw [hm]
   simp only [eqT] at h1
   split at h1
   ·cases h1
   ·rename_i i hl
    obtain ⟨hi, hie⟩ := qag hΓ hl
    have hdd : i.desc = kj.desc := by
     have a1 := hi.und
     rw [hie, hj.und] at a1
     injection a1 with a1; exact a1.symm
    rw [hdd, hd] at h1
    simp only [Bool.and_eq_true] at h1
    refine ⟨fun e => ?_, ?_⟩
    ·have := qlx hΓ e (n := 9998) (cs1 := []) h1.2.2 h3 hx1 rfl
     have hu := hj.und
     rw [hd] at hu
     unfold Instr.checkKey
     simp only [Sem.run_bind, run_underlying hu, Result.andThen_ok]
     rw [← Array.forIn_toList]
     simp only [List.nil_append] at this
     rw [this]; rfl
    ·have hb : Instr.sameBits 10000 (.agg cs.toArray) (.agg cs.toArray) = true := by
      show (cs.toArray.size == cs.toArray.size && (cs.toArray.toList.zip cs.toArray.toList).all fun (x, y) => Instr.sameBits 9999 x y) = true
      rw [Bool.and_eq_true, List.all_eq_true]
      refine ⟨by simp, fun p hp => ?_⟩
      obtain ⟨p1, p2⟩ := p
      have hz : ∀ (l : List Value) (p : Value × Value), p ∈ l.zip l → p.1 = p.2 ∧ p.1 ∈ l := by
       intro l
       induction l with
       | nil => intro p hp; cases hp
       | cons c l ih =>
        intro p hp
        rw [List.zip_cons_cons] at hp
        rcases List.mem_cons.1 hp with rfl | hp
        ·exact ⟨rfl, by simp⟩
        ·exact ⟨(ih p hp).1, List.mem_cons_of_mem _ (ih p hp).2⟩
      obtain ⟨e1, hm⟩ := hz _ _ hp
      have e1 : p1 = p2 := e1
      subst e1
      exact qf4 h2 hx1 p1 (by simpa using hm) 9999
     simp only [Instr.keyThatStays, hb, if_true, Sem.run_pure]
  ·cases h
theorem qi5 {Γ : List TI} {kj : TI} (hΓ : Tys P Γ) (hk : kj.τ.key = true) (h : eqT Γ 2 kj.t kj.τ = true) {x : kj.τ.den} {u : Value} (hx : RdV F w kj.τ x u) : ∀ (l : List MapEntry) (i : Nat), (∀ e ∈ l, ∃ y, RdV F w kj.τ y e.key) →
  ((Instr.findAsking kj.t u l i).run P w = .ok none w ∧ ∀ e ∈ l, e.key ≠ u) ∨ ∃ j e, (Instr.findAsking kj.t u l i).run P w = .ok (some (i + j, e.val)) w ∧ l[j]? = some e ∧ e.key = u
 | [], _, _ => .inl ⟨rfl, by simp⟩
 | e :: es, i, hl => by
  obtain ⟨y, hy⟩ := hl e (by simp)
  have hr : (Op.equal kj.t u e.key).run P w = .ok (eqb kj.τ x y) w := qiw hΓ (n := 2) (d := Op.maxDepth) (by decide) h hx hy
  rw [← qkE hk] at hr
  have hi := qsP hk hx hy
  cases hb : (keyO kj.τ).eq x y with
  | true =>
   rw [hb] at hr
   refine .inr ⟨0, e, ?_, rfl, (hi.1 hb).symm⟩
   simp only [Instr.findAsking, Sem.run_bind, hr, Result.andThen_ok, if_true, Sem.run_pure, Nat.add_zero]
  | false =>
   rw [hb] at hr
   have hne : e.key ≠ u := fun q => by rw [hi.2 q.symm] at hb; cases hb
   have hs : (Instr.findAsking kj.t u (e :: es) i).run P w = (Instr.findAsking kj.t u es (i + 1)).run P w := by
    simp only [Instr.findAsking, Sem.run_bind, hr, Result.andThen_ok, Bool.false_eq_true, if_false]
   rw [hs]
   rcases qi5 hΓ hk h hx es (i + 1) (fun e he => hl e (by simp [he])) with ⟨h1, h2⟩ | ⟨j, e', h1, h2, h3⟩
   ·exact .inl ⟨h1, fun x hx => by
     cases hx with
     | head => exact hne
     | tail _ hx => exact h2 x hx⟩
   ·exact .inr ⟨j + 1, e', by rw [h1]; congr 3; omega, by simpa using h2, h3⟩
theorem qmE {kt : TypeId} {d : TypeDesc} (hd : P.underlying kt = some d) (u : Value) : (Instr.findKey kt u []).run P w = .ok none w := by
 simp [Instr.findKey, run_underlying hd, Result.andThen, Instr.findNow]
theorem qig {Γ : List TI} {kj : TI} (hΓ : Tys P Γ) (hj : kj.ok P) (h : keyOk Γ kj = true) {x : kj.τ.den} {u : Value} (hx : RdV F w kj.τ x u) (l : List MapEntry) (hl : ∀ e ∈ l, ∃ y, RdV F w kj.τ y e.key) :
  ((Instr.findKey kj.t u l).run P w = .ok none w ∧ ∀ e ∈ l, e.key ≠ u) ∨ ∃ j e, (Instr.findKey kj.t u l).run P w = .ok (some (j, e.val)) w ∧ l[j]? = some e ∧ e.key = u := by
 have h0 := h
 unfold keyOk at h
 rw [Bool.or_eq_true] at h
 rcases h with h | h
 ·have hu := qmD h hx
  rcases findNow_spec hu l 0 (fun e he => by obtain ⟨y, hy⟩ := hl e he; exact qmD h hy) with ⟨h1, h2⟩ | ⟨j, e, h1, h2, h3⟩
  ·exact .inl ⟨run_findKey hj.und h1, h2⟩
  ·rw [Nat.zero_add] at h1
   exact .inr ⟨j, e, run_findKey hj.und h1, h2, h3⟩
 ·split at h
  ·rename_i fs hd
   simp only [Bool.and_eq_true] at h
   obtain ⟨⟨⟨h1, h2⟩, _⟩, h3⟩ := h
   have hu := hj.und
   rw [hd] at hu
   cases l with
   | nil => exact .inl ⟨qmE hu u, by simp⟩
   | cons e es =>
    have hn : Instr.findNow (.struct fs) u (e :: es) 0 = none := by simp [Instr.findNow, Instr.sameNow]
    have hs : (Instr.findKey kj.t u (e :: es)).run P w = (Instr.findAsking kj.t u (e :: es) 0).run P w := by
     simp only [Instr.findKey, Sem.run_bind, run_underlying hu, Result.andThen_ok, hn]
    rw [hs]
    have := qi5 hΓ h2 h1 hx (e :: es) 0 hl
    simpa only [Nat.zero_add] using this
  ·cases h
theorem MapEs.more {l : List (k.den × v.den)} {es es' : Array MapEntry} {clock clock' : Nat} (h : MapEs F w k v l es clock) {e : MapEntry} (hst : MapKept.Stamped es' clock') (hp : es'.toList.Perm (e :: es.toList)) {x : k.den} {y : v.den} (hx : RdV F w k x e.key) (hy : RdV F w v y e.val) (o : KO k.den) :
  MapEs F w k v (mins o l x y) es' clock' := by
 obtain ⟨Z, rfl, h2, h3⟩ := h.ent
 obtain ⟨i, hi⟩ := qpi o x y (Z.map (·.1))
 refine ⟨hst, Z.take i ++ ((x, y), e) :: Z.drop i, ?_, ?_, fun z hz => ?_⟩
 ·rw [hi]; simp
 ·rw [List.map_append, List.map_cons]
  refine List.perm_middle.trans ?_
  rw [← List.map_append, List.take_append_drop]
  exact (h2.cons e).trans hp.symm
 ·rcases List.mem_append.1 hz with hz | hz
  ·exact h3 z (List.mem_of_mem_take hz)
  ·rcases List.mem_cons.1 hz with rfl | hz
   ·exact ⟨hx, hy⟩
   ·exact h3 z (List.mem_of_mem_drop hz)
end
section
variable {P : Program} {w0 : World} {M : Mod} {N : Nat} {F0 : Nat → Prop} {ops : Array Oper} {st : St} {Γ : List TI} {rty : TypeId}
variable {F : Nat → Prop} {ρ : Env} {a : Act} {w : World}
/-! ### A new map -/
def qi6 (Γ : List TI) (st : St) (N d : Nat) (t : TypeId) : Option MR := match d with
 | 0 => none
 | _ + 1 => none
theorem qly {d : Nat} {t : TypeId} {r : MR} (h : qi6 Γ st N d t = some r) : MOk P w0 M N F0 ops st (some d) (.makeMap t none) rty r := by
 unfold qi6 at h
 split at h <;> cases h
/-! ### An entry is looked up -/
def qkF (Γ : List TI) (st : St) (t : TypeId) (x ix : Operand) (ok : Bool) : Option VR := match t with
 | 0 => none
 | _ + 1 => none
theorem qj4 {t kt et : TypeId} {z : Value} {i : TypeInfo} (ht : P.underlying t = some (.map kt et)) (hi : P.info? et = some i) (hz : i.zero = some z) {m : Value} {es : Array MapEntry} {u : Value} (hu : KeyV P w kt u)
  (hm : (m = .map none ∧ es = #[]) ∨ ∃ r clock, m = .map (some r) ∧ w.heap[r]? = some (.map es clock)) {o : Option (Nat × Value)} (hf : (Instr.findKey kt u es.toList).run P w = .ok o w) (ok : Bool) :
  (Instr.lookup t m u ok).run P w = .ok (bif ok then .tuple #[(o.map (·.2)).getD z, .bool o.isSome] else (o.map (·.2)).getD z) w := by
 have hzv : (zeroValue et).run P w = .ok z w := by simp [zeroValue, typeInfo, hi, hz, Result.andThen]
 rcases hm with ⟨rfl, rfl⟩ | ⟨r, clock, rfl, hb⟩
 ·have hf' : (Instr.findKey kt u []).run P w = .ok o w := hf
  cases o with
  | none => cases ok <;> simp [Instr.lookup, run_underlying ht, hu.chk, hf', hzv, Result.andThen]
  | some p => cases ok <;> simp [Instr.lookup, run_underlying ht, hu.chk, hf', hzv, Result.andThen]
 ·cases o with
  | none => cases ok <;> simp [Instr.lookup, run_underlying ht, MapKept.run_getObj_map hb, hu.chk, hf, hzv, Result.andThen]
  | some p => cases ok <;> simp [Instr.lookup, run_underlying ht, MapKept.run_getObj_map hb, hu.chk, hf, hzv, Result.andThen]
theorem qmF (hΓ : Tys P Γ) {t : TypeId} {x ix : Operand} {ok : Bool} {r : VR} (h : qkF Γ st t x ix ok = some r) : VOk P w0 M N st (.lookup t x ix ok) rty r := by
 unfold qkF at h
 split at h <;> cases h
/-! ### How many entries there are -/
def qpk (Γ : List TI) (st : St) (t : TypeId) (x : Operand) : Option VR := match t with
 | 0 => none
 | _ + 1 => none
theorem qpl (hΓ : Tys P Γ) {t : TypeId} {x : Operand} {r : VR} (h : qpk Γ st t x = some r) : VOk P w0 M N st (.call { callee := .builtin .len, args := #[x], argTypes := #[t] }) rty r := by
 unfold qpk at h
 split at h <;> cases h
/-! ### An entry is written; one is deleted -/
def qgz (Γ : List TI) (st : St) (t : TypeId) (x ix y : Operand) : Option MR := match t with
 | 0 => none
 | _ + 1 => none
theorem qkG {t kt et : TypeId} (ht : P.underlying t = some (.map kt et)) {r : Nat} {es : Array MapEntry} {clock : Nat} (hb : w.heap[r]? = some (.map es clock)) {u z : Value} (hu : KeyV P w kt u) :
  ((Instr.findKey kt u es.toList).run P w = .ok none w → (Instr.mapUpdate t (.map (some r)) u z).run P w = .ok () { w with heap := w.heap.setIfInBounds r (.map (es.push { key := u, val := z, born := clock }) (clock + 1)) }) ∧
  ∀ j e, (Instr.findKey kt u es.toList).run P w = .ok (some (j, e.val)) w → es[j]? = some e → e.key = u → (Instr.mapUpdate t (.map (some r)) u z).run P w = .ok () { w with heap := w.heap.setIfInBounds r (.map (es.modify j fun e => { e with key := u, val := z }) clock) } := by
 constructor
 ·intro h1
  simp [Instr.mapUpdate, run_underlying ht, MapKept.run_getObj_map hb, hu.chk, h1, run_setObj_map _ hb, Result.andThen]
 ·intro j e h1 hj h3
  simp [Instr.mapUpdate, run_underlying ht, MapKept.run_getObj_map hb, hu.chk, h1, hj, h3, hu.stay, run_setObj_map _ hb, Result.andThen]
theorem qmG (hΓ : Tys P Γ) {t : TypeId} {x ix y : Operand} {r : MR} (h : qgz Γ st t x ix y = some r) : MOk P w0 M N F0 ops st none (.mapUpdate t x ix y) rty r := by
 unfold qgz at h
 split at h <;> cases h
theorem qmH (hΓ : Tys P Γ) {t : TypeId} {x ix y : Operand} {r : MR} (h : qgz Γ st t x ix y = some r) : MOk P w0 M N F0 ops st none (.insert t x ix y) rty r := by
 unfold qgz at h
 split at h <;> cases h
def qkH (Γ : List TI) (st : St) (t : TypeId) (x ix : Operand) : Option MR := match t with
 | 0 => none
 | _ + 1 => none
theorem qmI (hΓ : Tys P Γ) {t t2 : TypeId} {dst : Option Nat} {x ix : Operand} {r : MR} (h : qkH Γ st t x ix = some r) (hdst : ∀ d, dst = some d → False) : MOk P w0 M N F0 ops st dst (.call { callee := .builtin .delete, args := #[x, ix], argTypes := #[t, t2] }) rty r := by
 unfold qkH at h
 split at h <;> cases h
/-! ### The entry of a key; a value is put into it -/
def qkI (Γ : List TI) (st : St) (N d : Nat) (t : TypeId) (x ix : Operand) : Option MR := match d with
 | 0 => none
 | _ + 1 => none
theorem qmJ (hΓ : Tys P Γ) {d : Nat} {t : TypeId} {x ix : Operand} {r : MR} (h : qkI Γ st N d t x ix = some r) : MOk P w0 M N F0 ops st (some d) (.mapEntry t x ix) rty r := by
 unfold qkI at h
 split at h <;> cases h
def qmK (st : St) (x s y : Operand) : Option MR := match x with
 | .tmp _ => none
 | _ => none
theorem qoi {t : TypeId} {x s y : Operand} {r : MR} (h : qmK st x s y = some r) (hg : r.g = true) : MOk P w0 M N F0 ops st none (.entryStore t x s y) rty r := by
 unfold qmK at h
 split at h <;> cases h
def qpm (Γ : List TI) (st : St) : Op → Option VR
 | .lookup t x ix ok => qkF Γ st t x ix ok
 | .call ⟨.builtin .len, ⟨[x]⟩, ⟨[t]⟩⟩ => qpk Γ st t x
 | _ => none
theorem qpn (hΓ : Tys P Γ) {op : Op} {r : VR} (h : qpm Γ st op = some r) : VOk P w0 M N st op rty r := by
 unfold qpm at h
 split at h
 ·exact qmF hΓ h
 ·exact qpl hΓ h
 ·cases h
def qpo (Γ : List TI) (st : St) (N : Nat) (dst : Option Nat) : Op → Option MR
 | .makeMap t none => match dst with
  | some d => qi6 Γ st N d t
  | none => none
 | .mapUpdate t x ix y => match dst with
  | none => qgz Γ st t x ix y
  | some _ => none
 | .insert t x ix y => match dst with
  | none => qgz Γ st t x ix y
  | some _ => none
 | .call ⟨.builtin .delete, ⟨[x, ix]⟩, ⟨[t, t2]⟩⟩ => match dst with
  | none => qkH Γ st t x ix
  | some _ => none
 | .mapEntry t x ix => match dst with
  | some d => qkI Γ st N d t x ix
  | none => none
 | .entryStore _ x s y => match dst with
  | none => qmK st x s y
  | some _ => none
 | _ => none
theorem qpp (hΓ : Tys P Γ) {dst : Option Nat} {op : Op} {r : MR} (h : qpo Γ st N dst op = some r) (hg : r.g = true) : MOk P w0 M N F0 ops st dst op rty r := by
 unfold qpo at h
 split at h
 all_goals first | (cases h; done) | (split at h <;> first | (cases h; done) | skip)
 ·exact qly h
 ·exact qmG hΓ h
 ·exact qmH hΓ h
 ·exact qmI hΓ h (fun d e => by cases e)
 ·exact qmJ hΓ h
 ·exact qoi h hg
end
end Go.Sq
