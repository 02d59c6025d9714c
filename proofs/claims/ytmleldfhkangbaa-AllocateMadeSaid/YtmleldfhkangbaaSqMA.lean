/- The second engine, part MA: maps that a call makes: entries are looked up, written, deleted, counted. No condition. -/
import Derived.Test.YtmleldfhkangbaaSqM
namespace Go.Sq
open Go Go.RowKit Go.MapKept

/-- How keys are compared. -/
structure KO (K : Type) where
  eq : K → K → Bool
  lt : K → K → Bool
/-- The value of a key. -/
def mget {K V : Type} (o : KO K) : List (K × V) → K → Option V
  | [], _ => none
  | p :: r, x => bif o.eq x p.1 then some p.2 else mget o r x
/-- A key is deleted. -/
def mdel {K V : Type} (o : KO K) : List (K × V) → K → List (K × V)
  | [], _ => []
  | p :: r, x => bif o.eq x p.1 then r else p :: mdel o r x
/-- An entry is put among those of lesser and greater keys. -/
def mins {K V : Type} (o : KO K) : List (K × V) → K → V → List (K × V)
  | [], x, y => [(x, y)]
  | p :: r, x, y => bif o.lt x p.1 then (x, y) :: p :: r else p :: mins o r x y
/-- A key's value is written: entries stay in the order of their keys. -/
def mput {K V : Type} (o : KO K) (l : List (K × V)) (x : K) (y : V) : List (K × V) := mins o (mdel o l x) x y

theorem mget_at {K V : Type} {o : KO K} {x : K} : ∀ {l : List (K × V)} {j : Nat} {p : K × V}, l[j]? = some p → o.eq x p.1 = true → (∀ i q, l[i]? = some q → o.eq x q.1 = true → i = j) →
    mget o l x = some p.2 ∧ mdel o l x = l.eraseIdx j
  | [], j, p, h, _, _ => by simp at h
  | q :: r, j, p, h, hp, hu => by
    cases hq : o.eq x q.1 with
    | true =>
      have h0 := hu 0 q rfl hq
      subst h0
      simp at h; subst h
      exact ⟨by simp [mget, hq], by simp [mdel, hq]⟩
    | false =>
      cases j with
      | zero => simp at h; subst h; rw [hp] at hq; cases hq
      | succ j =>
        obtain ⟨a1, a2⟩ := mget_at (l := r) (j := j) (p := p) (by simpa using h) hp (fun i q hi he => by have := hu (i + 1) q (by simpa using hi) he; omega)
        exact ⟨by simp [mget, hq, a1], by simp [mdel, hq, a2]⟩
theorem mget_no {K V : Type} {o : KO K} {x : K} : ∀ {l : List (K × V)}, (∀ q ∈ l, o.eq x q.1 = false) → mget o l x = none ∧ mdel o l x = l
  | [], _ => ⟨rfl, rfl⟩
  | q :: r, h => by
    have hq := h q (by simp)
    obtain ⟨a1, a2⟩ := mget_no (l := r) fun p hp => h p (by simp [hp])
    exact ⟨by simp [mget, hq, a1], by simp [mdel, hq, a2]⟩
theorem mins_at {K V : Type} (o : KO K) (x : K) (y : V) : ∀ (l : List (K × V)), ∃ i, mins o l x y = l.take i ++ (x, y) :: l.drop i
  | [] => ⟨0, rfl⟩
  | p :: r => by
    unfold mins
    cases o.lt x p.1 with
    | true => exact ⟨0, rfl⟩
    | false =>
      obtain ⟨i, h⟩ := mins_at o x y r
      exact ⟨i + 1, by simp [h]⟩

/-- One text is ahead of another. -/
def strLt : List UInt8 → List UInt8 → Bool
  | _, [] => false
  | [], _ :: _ => true
  | a :: s, b :: t => decide (a < b) || (decide (a = b) && strLt s t)
/-- How keys of a type are compared. -/
def keyO : (k : Ty) → KO k.den
  | .int _ => ⟨fun (a b : Int) => decide (a = b), fun (a b : Int) => decide (a < b)⟩
  | .str => ⟨fun (a b : List UInt8) => decide (a = b), strLt⟩
  | .bool => ⟨fun (a b : Bool) => a == b, fun (a b : Bool) => !a && b⟩
  | _ => ⟨fun _ _ => false, fun _ _ => false⟩
abbrev keyI : KO Int := keyO (.int .i64)
abbrev keyS : KO (List UInt8) := keyO .str
abbrev keyB : KO Bool := keyO .bool
/-- Keys of this type are those data. -/
def keyTy : TypeDesc → Ty → Bool
  | .int q, .int q' => decide (q = q')
  | .string, .str => true
  | .bool, .bool => true
  | _, _ => false
/-- The zero value of an element. -/
def zOk : Ty → Value → Bool
  | .int q, .int q' n => decide (q = q') && decide (n = 0)
  | .bool, .bool b => !b
  | .str, .string s => s.data.toList.isEmpty
  | _, _ => false

section
variable {P : Program} {F : Nat → Prop} {w : World} {k v : Ty} {d : TypeDesc}

theorem key_is {x : k.den} {u : Value} (h : keyTy d k = true) (hx : RdV F w k x u) : IsKey d u := by
  obtain ⟨cs, h1, rfl⟩ := hx
  unfold keyTy at h
  split at h
  · cases h1; exact (of_decide_eq_true h).symm
  · cases h1; trivial
  · cases h1; trivial
  · cases h
theorem key_int {q : IntKind} {x y : Int} : (keyO (.int q)).eq x y = true ↔ Value.int q x = Value.int q y := by
  show decide (x = y) = true ↔ _
  rw [decide_eq_true_eq]
  exact ⟨fun e => by rw [e], fun e => by injection e⟩
theorem key_str {x y : List UInt8} : (keyO .str).eq x y = true ↔ Value.string ⟨⟨x⟩⟩ = Value.string ⟨⟨y⟩⟩ := by
  show decide (x = y) = true ↔ _
  rw [decide_eq_true_eq]
  exact ⟨fun e => by rw [e], fun e => by injection e with e; injection e with e; injection e⟩
theorem key_bool {x y : Bool} : (keyO .bool).eq x y = true ↔ Value.bool x = Value.bool y := by
  show (x == y) = true ↔ _
  rw [beq_iff_eq]
  exact ⟨fun e => by rw [e], fun e => by injection e⟩
theorem key_eq {x y : k.den} {u u' : Value} (h : keyTy d k = true) (hx : RdV F w k x u) (hy : RdV F w k y u') : (keyO k).eq x y = true ↔ u = u' := by
  obtain ⟨cs, h1, rfl⟩ := hx
  obtain ⟨cs', h2, rfl⟩ := hy
  unfold keyTy at h
  split at h
  · cases h1; cases h2; exact key_int
  · cases h1; cases h2; exact key_str
  · cases h1; cases h2; exact key_bool
  · cases h
theorem zOk_rd {τ : Ty} {z : Value} (h : zOk τ z = true) : RdV F w τ τ.dflt z := by
  unfold zOk at h
  split at h
  · rw [Bool.and_eq_true, decide_eq_true_eq, decide_eq_true_eq] at h
    obtain ⟨rfl, rfl⟩ := h
    exact ⟨_, rfl, rfl⟩
  · rw [Bool.not_eq_true'] at h; subst h
    exact ⟨_, rfl, rfl⟩
  · rename_i s
    obtain ⟨⟨l⟩⟩ := s
    simp at h; subst h
    exact ⟨_, rfl, rfl⟩
  · cases h

theorem erase_perm {A : Type} {L : List A} {j : Nat} {e : A} (h : L[j]? = some e) : L.Perm (e :: L.eraseIdx j) := by
  have hj := (List.getElem?_eq_some_iff.1 h).1
  have h2 := (List.getElem?_eq_some_iff.1 h).2
  have hL : L = L.take j ++ e :: L.drop (j + 1) := by
    rw [← h2, ← List.drop_eq_getElem_cons hj, List.take_append_drop]
  rw [List.eraseIdx_eq_take_drop_succ]
  conv => lhs; rw [hL]
  exact List.perm_middle
theorem erase_toList {es : Array MapEntry} {j : Nat} (hj : j < es.size) : (es.eraseIdxIfInBounds j).toList = es.toList.eraseIdx j := by
  unfold Array.eraseIdxIfInBounds
  rw [dif_pos hj, Array.toList_eraseIdx]
theorem modify_perm {es : Array MapEntry} {j : Nat} {e : MapEntry} (f : MapEntry → MapEntry) (h : es[j]? = some e) : (es.modify j f).toList.Perm (f e :: (es.eraseIdxIfInBounds j).toList) := by
  have hj := (Array.getElem?_eq_some_iff.1 h).1
  have h2 : (es.modify j f).toList[j]? = some (f e) := by
    rw [Array.getElem?_toList, Array.getElem?_modify, if_pos rfl, h]; rfl
  refine (erase_perm h2).trans ?_
  rw [erase_toList hj]
  have : (es.modify j f).toList.eraseIdx j = es.toList.eraseIdx j := by
    apply List.ext_getElem?
    intro i
    rw [List.getElem?_eraseIdx, List.getElem?_eraseIdx]
    split
    · rw [Array.getElem?_toList, Array.getElem?_toList, Array.getElem?_modify, if_neg (by omega)]
    · rw [Array.getElem?_toList, Array.getElem?_toList, Array.getElem?_modify, if_neg (by omega)]
  rw [this]
/-- An entry more. -/
theorem MapEs.more {l : List (k.den × v.den)} {es es' : Array MapEntry} {clock clock' : Nat} (h : MapEs F w k v l es clock) {e : MapEntry} (hst : MapKept.Stamped es' clock') (hp : es'.toList.Perm (e :: es.toList)) {x : k.den} {y : v.den} (hx : RdV F w k x e.key) (hy : RdV F w v y e.val) (o : KO k.den) :
    MapEs F w k v (mins o l x y) es' clock' := by
  obtain ⟨Z, rfl, h2, h3⟩ := h.ent
  obtain ⟨i, hi⟩ := mins_at o x y (Z.map (·.1))
  refine ⟨hst, Z.take i ++ ((x, y), e) :: Z.drop i, ?_, ?_, fun z hz => ?_⟩
  · rw [hi]; simp
  · rw [List.map_append, List.map_cons]
    refine List.perm_middle.trans ?_
    rw [← List.map_append, List.take_append_drop]
    exact (h2.cons e).trans hp.symm
  · rcases List.mem_append.1 hz with hz | hz
    · exact h3 z (List.mem_of_mem_take hz)
    · rcases List.mem_cons.1 hz with rfl | hz
      · exact ⟨hx, hy⟩
      · exact h3 z (List.mem_of_mem_drop hz)
/-- Where a key is among the entries. -/
theorem map_find {l : List (k.den × v.den)} {es : Array MapEntry} {clock : Nat} (hm : MapEs F w k v l es clock) (hk : keyTy d k = true) {x : k.den} {u : Value} (hx : RdV F w k x u) :
    (∀ e ∈ es.toList, IsKey d e.key) ∧
    ((Instr.findNow d u es.toList 0 = some none ∧ (∀ e ∈ es.toList, e.key ≠ u) ∧ mget (keyO k) l x = none ∧ mdel (keyO k) l x = l) ∨
    ∃ (j : Nat) (e : MapEntry) (y : v.den), Instr.findNow d u es.toList 0 = some (some (j, e.val)) ∧ es[j]? = some e ∧ e.key = u ∧ mget (keyO k) l x = some y ∧ RdV F w v y e.val ∧ MapEs F w k v (mdel (keyO k) l x) (es.eraseIdxIfInBounds j) clock) := by
  obtain ⟨Z, rfl, z2, z3⟩ := hm.ent
  have hks : ∀ e ∈ es.toList, IsKey d e.key := by
    intro e he
    obtain ⟨z, hz, rfl⟩ := List.mem_map.1 (z2.mem_iff.2 he)
    exact key_is hk (z3 z hz).1
  refine ⟨hks, ?_⟩
  rcases findNow_spec (key_is hk hx) es.toList 0 hks with ⟨h1, h2⟩ | ⟨j, e, h1, h2, h3⟩
  · refine .inl ⟨h1, h2, mget_no fun q hq => ?_⟩
    obtain ⟨z, hz, rfl⟩ := List.mem_map.1 hq
    have hne := h2 z.2 (z2.mem_iff.1 (List.mem_map_of_mem hz))
    cases hb : (keyO k).eq x z.1.1 with
    | false => rfl
    | true => exact absurd ((key_eq hk hx (z3 z hz).1).1 hb).symm hne
  · rw [Nat.zero_add] at h1
    have hj := (List.getElem?_eq_some_iff.1 h2).1
    obtain ⟨z, hz, hze⟩ := List.mem_map.1 (z2.mem_iff.2 (List.mem_of_getElem? h2))
    obtain ⟨i, hi⟩ := List.getElem?_of_mem hz
    subst hze
    have hkn : (Z.map (·.2.key)).Nodup := by
      have := (z2.map (·.key)).nodup_iff.2 hm.st.2.2
      rwa [List.map_map] at this
    have hi2 : (Z.map (·.1))[i]? = some z.1 := by rw [List.getElem?_map, hi]; rfl
    obtain ⟨a1, a2⟩ := mget_at (o := keyO k) hi2 ((key_eq hk hx (z3 z hz).1).2 h3.symm) fun i' q hi' hq => by
      rw [List.getElem?_map, Option.map_eq_some_iff] at hi'
      obtain ⟨z', hz', rfl⟩ := hi'
      have h4 := (key_eq hk hx (z3 z' (List.mem_of_getElem? hz')).1).1 hq
      have g1 : (Z.map (·.2.key))[i']? = some u := by rw [List.getElem?_map, hz', h4]; rfl
      have g2 : (Z.map (·.2.key))[i]? = some u := by rw [List.getElem?_map, hi, ← h3]; rfl
      exact (List.getElem?_inj (by simpa using (List.getElem?_eq_some_iff.1 hz').1) hkn).1 (g1.trans g2.symm)
    refine .inr ⟨j, z.2, z.1.2, h1, by rw [← Array.getElem?_toList]; exact h2, h3, a1, (z3 z hz).2, stamped_erase hm.st j, Z.eraseIdx i, ?_, ?_, fun z' hz' => z3 z' (List.mem_of_mem_eraseIdx hz')⟩
    · rw [a2]
      rw [List.eraseIdx_eq_take_drop_succ, List.eraseIdx_eq_take_drop_succ, List.map_append, List.map_take, List.map_drop]
    · rw [erase_toList (by simpa using hj)]
      have p1 := (erase_perm hi).map (·.2)
      rw [List.map_cons] at p1
      have p2 := erase_perm h2
      exact ((p1.symm.trans z2).trans p2).cons_inv
end

section
variable {P : Program} {w0 : World} {M : Mod} {N : Nat} {F0 : Nat → Prop} {ops : Array Oper} {st : St} {Γ : List TI} {rty : TypeId}
variable {F : Nat → Prop} {ρ : Env} {a : Act} {w : World}

/-- A map's types. -/
def mapTy (Γ : List TI) (t : TypeId) : Option (TI × TI) :=
  match look Γ t with
  | some i => match i.desc with
    | .map kt et => match look Γ kt, look Γ et with
      | some kj, some ej => bif keyTy kj.desc kj.τ && zOk ej.τ ej.zero then some (kj, ej) else none
      | _, _ => none
    | _ => none
  | none => none
theorem mapTy_ok (hΓ : Tys P Γ) {t : TypeId} {kj ej : TI} (h : mapTy Γ t = some (kj, ej)) : P.underlying t = some (.map kj.t ej.t) ∧ P.underlying kj.t = some kj.desc ∧ keyTy kj.desc kj.τ = true ∧ zOk ej.τ ej.zero = true ∧ ej.ok P := by
  unfold mapTy at h
  split at h
  · rename_i i hl
    obtain ⟨hi, rfl⟩ := look_ok hΓ hl
    split at h
    · rename_i kt et hd
      split at h
      · rename_i kj' ej' h1 h2
        obtain ⟨hk, rfl⟩ := look_ok hΓ h1
        obtain ⟨he, rfl⟩ := look_ok hΓ h2
        cases hc : (keyTy kj'.desc kj'.τ && zOk ej'.τ ej'.zero) with
        | false => rw [hc] at h; cases h
        | true =>
          rw [hc] at h; injection h with h; injection h with h h'; subst h h'
          rw [Bool.and_eq_true] at hc
          exact ⟨by rw [hi.und, hd], hk.und, hc.1, hc.2, he⟩
      · cases h
    · cases h
  · cases h

/-! ### A new map -/
def evMakeMap (Γ : List TI) (st : St) (N d : Nat) (t : TypeId) : Option MR :=
  match mapTy Γ t with
  | some (kj, ej) => bif Nat.blt d N && !st.d (fresh st d 8 0) then some ⟨true, [.d (fresh st d 8 0)], [.d (fresh st d 8 0), .a (fresh st d 8 0) (some (.map true t kj.τ ej.τ [])), .r d (.own (fresh st d 8 0))]⟩ else none
  | none => none
theorem evMakeMap_ok {d : Nat} {t : TypeId} {r : MR} (h : evMakeMap Γ st N d t = some r) : MOk P w0 M N F0 ops st (some d) (.makeMap t none) rty r := by
  unfold evMakeMap at h
  split at h
  · rename_i kj ej hm
    cases hc : (Nat.blt d N && !st.d (fresh st d 8 0)) with
    | false => rw [hc] at h; cases h
    | true =>
      rw [hc] at h; injection h with h; subst h
      rw [Bool.and_eq_true, Nat.blt_eq, Bool.not_eq_true'] at hc
      intro pos af
      refine RT.stepW rfl fun st' hag F ρ a w hr => ?_
      have hd' : st'.d (fresh st d 8 0) = false := by rw [← hc.2]; exact (hag (.d _) (by simp)).symm
      have hob : ObOk F (w.alloc (.map #[] 0)) (.map true t kj.τ ej.τ []) (.map (some w.heap.size)) :=
        .inr ⟨w.heap.size, #[], 0, rfl, (heap_alloc w _).1, stamped_empty 0, [], rfl, .nil, fun z hz => by cases hz⟩
      refine ⟨_, _, F, w.alloc (.map #[] 0), .inl ?_, hr.newA hd' hc.1 (fr_alloc w _) hob (fun g hg => by injection hg with hg; subst hg; exact Nat.le_refl _), fun _ h => h, fun _ h => .inl h⟩
      have hrun : (Instr.makeMap t none).run P w = .ok (.map (some w.heap.size)) (w.alloc (.map #[] 0)) := rfl
      simp only [execOp, Option.map_none, hrun, Sem.run_bind, Sem.run_pure, Result.andThen_ok]
  · cases h

/-! ### An entry is looked up -/
def optS (τ : Ty) (ok : Bool) (z : τ.den) (x : Option τ.den) : SV := bif ok then .tup [.v τ (x.getD z), .b x.isSome] else .v τ (x.getD z)
def evLookup (Γ : List TI) (st : St) (t : TypeId) (x ix : Operand) (ok : Bool) : Option VR :=
  match mapTy Γ t, st.ev x with
  | some (kj, ej), .own b => match st.a b, (st.ev ix).dat kj.τ with
    | some (.map _ _ k v l), some y => if h : k = kj.τ ∧ v = ej.τ then some ⟨true, opKeys x ++ (opKeys ix ++ [.a b]), optS ej.τ ok ej.τ.dflt (mget (keyO kj.τ) (h.1 ▸ h.2 ▸ l : List (kj.τ.den × ej.τ.den)) y)⟩ else none
    | _, _ => none
  | _, _ => none
theorem run_lookup {t kt et : TypeId} {d : TypeDesc} {z : Value} {i : TypeInfo} (ht : P.underlying t = some (.map kt et)) (hd : P.underlying kt = some d) (hi : P.info? et = some i) (hz : i.zero = some z) {m : Value} {es : Array MapEntry} {u : Value} (hu : IsKey d u)
    (hm : (m = .map none ∧ es = #[]) ∨ ∃ r clock, m = .map (some r) ∧ w.heap[r]? = some (.map es clock)) {o : Option (Nat × Value)} (hf : Instr.findNow d u es.toList 0 = some o) (ok : Bool) :
    (Instr.lookup t m u ok).run P w = .ok (bif ok then .tuple #[(o.map (·.2)).getD z, .bool o.isSome] else (o.map (·.2)).getD z) w := by
  have hzv : (zeroValue et).run P w = .ok z w := by simp [zeroValue, typeInfo, hi, hz, Result.andThen]
  rcases hm with ⟨rfl, rfl⟩ | ⟨r, clock, rfl, hb⟩
  · cases o with
    | none => cases ok <;> simp [Instr.lookup, run_underlying ht, run_checkKey hd hu, run_findKey hd hf, hzv, Result.andThen]
    | some p => simp [Instr.findNow] at hf
  · cases o with
    | none => cases ok <;> simp [Instr.lookup, run_underlying ht, MapKept.run_getObj_map hb, run_checkKey hd hu, run_findKey hd hf, hzv, Result.andThen]
    | some p => cases ok <;> simp [Instr.lookup, run_underlying ht, MapKept.run_getObj_map hb, run_checkKey hd hu, run_findKey hd hf, hzv, Result.andThen]
theorem optS_den {τ : Ty} {ok : Bool} {z : τ.den} {x : Option τ.den} {zv : Value} {o : Option (Nat × Value)} (hz : RdV F w τ z zv) (hx : (x = none ∧ o = none) ∨ ∃ y j u, x = some y ∧ o = some (j, u) ∧ RdV F w τ y u) :
    Den P F w ρ (optS τ ok z x) (bif ok then .tuple #[(o.map (·.2)).getD zv, .bool o.isSome] else (o.map (·.2)).getD zv) := by
  have h1 : RdV F w τ (x.getD z) ((o.map (·.2)).getD zv) ∧ x.isSome = o.isSome := by
    rcases hx with ⟨rfl, rfl⟩ | ⟨y, j, u, rfl, rfl, h⟩
    · exact ⟨hz, rfl⟩
    · exact ⟨h, rfl⟩
  cases ok with
  | false => exact .v h1.1
  | true =>
    refine .tup (vs := [_, _]) rfl fun i s u hs hu => ?_
    match i with
    | 0 => simp at hs hu; subst hs hu; exact .v h1.1
    | 1 => simp at hs hu; subst hs hu; rw [h1.2]; exact .v ⟨_, rfl, rfl⟩
    | i + 2 => simp at hs
theorem evLookup_ok (hΓ : Tys P Γ) {t : TypeId} {x ix : Operand} {ok : Bool} {r : VR} (h : evLookup Γ st t x ix ok = some r) : VOk P w0 M N st (.lookup t x ix ok) rty r := by
  unfold evLookup at h
  split at h
  · rename_i kj ej b hm hx
    obtain ⟨m1, m2, m3, m4, m5⟩ := mapTy_ok hΓ hm
    split at h
    · rename_i nn ty k v l y hA hy
      split at h
      · rename_i hkv
        obtain ⟨rfl, rfl⟩ := hkv
        injection h with h; subst h
        intro st' hag F ρ a w hr dst pos af gd
        have hxd := hr.evx hag (fun _ h => mem_l h) (x := x)
        have hyd := dat_den hy (hr.evx hag (fun _ h => mem_r (mem_l h)) (x := ix))
        rw [hx] at hxd
        generalize he : a.eval x = u at hxd
        cases hxd with
        | own hρ =>
          obtain ⟨u', q1, q2⟩ := hr.mem.arr b _ (by rw [← (hag (.a b) (by simp) : st.a b = st'.a b)]; exact hA)
          rw [hρ] at q1; injection q1 with q1; subst q1
          obtain ⟨inf, i1, i2, i3, i4⟩ := m5.info
          have hu := key_is m3 hyd
          rcases q2 with ⟨_, rfl, rfl⟩ | ⟨r, es, clock, rfl, h2, h3⟩
          · have hrun := run_lookup (w := w) (o := none) m1 m2 i1 i4 hu (.inl ⟨rfl, rfl⟩) rfl ok
            exact ⟨_, by simp only [execOp, he, hrun, Sem.run_bind, Sem.run_pure, Result.andThen_ok], optS_den (zOk_rd m4) (.inl ⟨rfl, rfl⟩)⟩
          · obtain ⟨_, hf⟩ := map_find h3 m3 hyd
            rcases hf with ⟨f1, _, f2, _⟩ | ⟨j, e, p, f1, _, _, f5, f6, _⟩
            · have hrun := run_lookup (w := w) m1 m2 i1 i4 hu (.inr ⟨r, clock, rfl, h2⟩) f1 ok
              exact ⟨_, by simp only [execOp, he, hrun, Sem.run_bind, Sem.run_pure, Result.andThen_ok], optS_den (zOk_rd m4) (.inl ⟨f2, rfl⟩)⟩
            · have hrun := run_lookup (w := w) m1 m2 i1 i4 hu (.inr ⟨r, clock, rfl, h2⟩) f1 ok
              exact ⟨_, by simp only [execOp, he, hrun, Sem.run_bind, Sem.run_pure, Result.andThen_ok], optS_den (zOk_rd m4) (.inr ⟨p, j, e.val, f5, rfl, f6⟩)⟩
      · cases h
    · cases h
  · cases h

/-! ### How many entries there are -/
def evLenM (Γ : List TI) (st : St) (t : TypeId) (x : Operand) : Option VR :=
  match mapTy Γ t, st.ev x with
  | some _, .own b => match st.a b with
    | some (.map _ _ _ _ l) => some ⟨true, opKeys x ++ [.a b], .v (.int .i64) (Int.ofNat l.length)⟩
    | _ => none
  | _, _ => none
theorem evLenM_ok (hΓ : Tys P Γ) {t : TypeId} {x : Operand} {r : VR} (h : evLenM Γ st t x = some r) : VOk P w0 M N st (.call { callee := .builtin .len, args := #[x], argTypes := #[t] }) rty r := by
  unfold evLenM at h
  split at h
  · rename_i kj b hm hx
    obtain ⟨kj, ej⟩ := kj
    obtain ⟨m1, _⟩ := mapTy_ok hΓ hm
    split at h
    · rename_i nn ty k v l hA
      injection h with h; subst h
      intro st' hag F ρ a w hr dst pos af gd
      have hxd := hr.evx hag (fun _ h => mem_l h) (x := x)
      rw [hx] at hxd
      generalize he : a.eval x = u at hxd
      cases hxd with
      | own hρ =>
        obtain ⟨u', q1, q2⟩ := hr.mem.arr b _ (by rw [← (hag (.a b) (by simp) : st.a b = st'.a b)]; exact hA)
        rw [hρ] at q1; injection q1 with q1; subst q1
        have fin : (Builtin.len_ #[t] rty #[u]).run P w = .ok (.int .i64 (Int.ofNat l.length)) w → ∃ u', (execOp a.eval ⟨dst, .call { callee := .builtin .len, args := #[x], argTypes := #[t] }, rty, pos, af, gd⟩).run P w = .ok (.value u') w ∧ Den P F w ρ (.v (.int .i64) (Int.ofNat l.length)) u' := fun hr' =>
          ⟨_, by simp only [execOp, resolve, invoke, builtin, Sem.run_bind, Sem.run_pure, Result.andThen_ok, List.map_toArray, List.map_cons, List.map_nil, he, hr'], .ofInt _ _⟩
        rcases q2 with ⟨_, rfl, rfl⟩ | ⟨r, es, clock, rfl, h2, h3⟩
        · exact fin (by simp [Builtin.len_, run_underlying m1]; rfl)
        · refine fin ?_
          rw [← h3.size]
          simp [Builtin.len_, run_underlying m1, MapKept.run_getObj_map h2]; rfl
    · cases h
  · cases h

/-! ### An entry is written; one is deleted -/
theorem Rel'.mapSet {b r clock clock' : Nat} {ty : TypeId} {k v : Ty} {l l' : List (k.den × v.den)} {es es' : Array MapEntry} {nn : Bool} (h : Rel' P w0 M N F ρ st a w) (hA : st.a b = some (.map nn ty k v l)) (hρ : ρ b = some (.map (some r)))
    (hb : w.heap[r]? = some (.map es clock)) (hes : MapEs F w k v l' es' clock') : Rel' P w0 M N F ρ (st.put (.a b (some (.map nn ty k v l')))) a { w with heap := w.heap.setIfInBounds r (.map es' clock') } := by
  have hp0 : st.present b := .inr (by rw [hA]; simp)
  have hd0 := h.dropA b
  have hlt : r < w.heap.size := (Array.getElem?_eq_some_iff.1 hb).1
  have hv0 : st.v b = none := by
    cases hx : st.v b with
    | none => rfl
    | some x =>
      exfalso
      obtain ⟨g, arr, h1, _⟩ := h.mem.var b x.1 x.2 hx
      rw [hρ] at h1; injection h1 with h1; cases h1
  have hfr : Fr w (fun g => g = r) { w with heap := w.heap.setIfInBounds r (.map es' clock') } :=
    ⟨rfl, rfl, rfl, by simp, fun g _ hg => (heap_set hb).2 g hg⟩
  have hpr : ∀ b', (st.put (.a b none)).present b' → b' ≠ b ∧ st.present b' := by
    intro b' hp
    by_cases e : b' = b
    · subst e
      exfalso
      rcases hp with hp | hp
      · exact hp hv0
      · refine hp ?_
        show (bif Nat.beq b' b' then none else st.a b') = none
        simp
    · refine ⟨e, ?_⟩
      rcases hp with hp | hp
      · exact .inl hp
      · refine .inr ?_
        have hp' : (bif Nat.beq b' b then none else st.a b') ≠ none := hp
        rw [bq e] at hp'; exact hp'
  have hdis : ∀ b' v g, (st.put (.a b none)).present b' → ρ b' = some v → blkOf v = some g → ¬ g = r := by
    intro b' v g hp hv hg hgr
    subst hgr
    obtain ⟨hne, hp'⟩ := hpr b' hp
    exact hne (h.mem.sep b' b v _ g hp' hp0 hv hρ hg rfl)
  have hnF : ∀ g, F g → ¬ g = r := fun g hF hg => by subst hg; exact h.mem.own b _ g hp0 hρ rfl hF
  have h1 := hd0.move (F' := F) hfr hdis hnF (fun _ h => h) (fun _ h => .inl h) (fun g hg => Nat.lt_of_lt_of_le (h.mem.fb g hg) hfr.size) (fun g hg hlt' => (h.lo b _ g hp0 hρ (by subst hg; rfl)).resolve_right (by omega))
  have hob : ObOk F { w with heap := w.heap.setIfInBounds r (.map es' clock') } (.map nn ty k v l') (.map (some r)) := by
    obtain ⟨Z, z1, z2, z3⟩ := hes.ent
    refine .inr ⟨r, es', clock', rfl, (heap_set hb).1, hes.st, Z, z1, z2, fun z hz => ?_⟩
    have hc : ∀ g, F g → (w.heap.setIfInBounds r (.map es' clock'))[g]? = w.heap[g]? := fun g hF => (heap_set hb).2 _ (hnF _ hF)
    obtain ⟨⟨c1, p1, p2⟩, ⟨c2, s1, s2⟩⟩ := z3 z hz
    exact ⟨⟨c1, p1.mono (fun _ h => h) hc, p2⟩, ⟨c2, s1.mono (fun _ h => h) hc, s2⟩⟩
  have h2 := h1.addA (b := b) (A := .map nn ty k v l') hρ hv0 hob (fun g hg => ⟨fun b' v hne hp hv' hbk => by
      obtain ⟨_, hp'⟩ := hpr b' hp
      exact hne (h.mem.sep b' b v _ g hp' hp0 hv' hρ hbk hg), fun hF => h.mem.own b _ g hp0 hρ hg hF, h.lo b _ g hp0 hρ hg⟩)
  have e : (st.put (.a b none)).put (.a b (some (.map nn ty k v l'))) = st.put (.a b (some (.map nn ty k v l'))) := by
    show ({ st with a := _ } : St) = { st with a := _ }
    congr 1
    funext x
    show (bif Nat.beq x b then _ else bif Nat.beq x b then none else st.a x) = bif Nat.beq x b then _ else st.a x
    cases Nat.beq x b <;> rfl
  rwa [e] at h2

def evMapUpd (Γ : List TI) (st : St) (t : TypeId) (x ix y : Operand) : Option MR :=
  match mapTy Γ t, st.ev x with
  | some (kj, ej), .own b => match st.a b, (st.ev ix).dat kj.τ, (st.ev y).dat ej.τ with
    | some (.map true ty k v l), some key, some val => if h : k = kj.τ ∧ v = ej.τ then some ⟨true, opKeys x ++ (opKeys ix ++ (opKeys y ++ [.a b])), [.a b (some (.map true ty kj.τ ej.τ (mput (keyO kj.τ) (h.1 ▸ h.2 ▸ l : List (kj.τ.den × ej.τ.den)) key val)))]⟩ else none
    | _, _, _ => none
  | _, _ => none
theorem run_mapUpdate {t kt et : TypeId} {d : TypeDesc} (ht : P.underlying t = some (.map kt et)) (hd : P.underlying kt = some d) {r : Nat} {es : Array MapEntry} {clock : Nat} (hb : w.heap[r]? = some (.map es clock)) {u z : Value} (hu : IsKey d u) :
    (Instr.findNow d u es.toList 0 = some none → (Instr.mapUpdate t (.map (some r)) u z).run P w = .ok () { w with heap := w.heap.setIfInBounds r (.map (es.push { key := u, val := z, born := clock }) (clock + 1)) }) ∧
    ∀ j e, Instr.findNow d u es.toList 0 = some (some (j, e.val)) → es[j]? = some e → e.key = u → (Instr.mapUpdate t (.map (some r)) u z).run P w = .ok () { w with heap := w.heap.setIfInBounds r (.map (es.modify j fun e => { e with key := u, val := z }) clock) } := by
  constructor
  · intro h1
    simp [Instr.mapUpdate, run_underlying ht, MapKept.run_getObj_map hb, run_checkKey hd hu, run_findKey hd h1, run_setObj_map _ hb, Result.andThen]
  · intro j e h1 hj h3
    simp [Instr.mapUpdate, run_underlying ht, MapKept.run_getObj_map hb, run_checkKey hd hu, run_findKey hd h1, hj, h3, run_keyThatStays hu, run_setObj_map _ hb, Result.andThen]
theorem evMapUpd_ok (hΓ : Tys P Γ) {t : TypeId} {x ix y : Operand} {r : MR} (h : evMapUpd Γ st t x ix y = some r) : MOk P w0 M N F0 ops st none (.mapUpdate t x ix y) rty r := by
  unfold evMapUpd at h
  split at h
  · rename_i kj ej b hm hx
    obtain ⟨m1, m2, m3, m4, m5⟩ := mapTy_ok hΓ hm
    split at h
    · rename_i ty k v l key val hA hk hv
      split at h
      · rename_i hkv
        obtain ⟨rfl, rfl⟩ := hkv
        injection h with h; subst h
        intro pos af
        refine RT.stepW rfl fun st' hag F ρ a w hr => ?_
        have hxd := hr.evx hag (fun _ h => mem_l h) (x := x)
        have hkd := dat_den hk (hr.evx hag (fun _ h => mem_r (mem_l h)) (x := ix))
        have hvd := dat_den hv (hr.evx hag (fun _ h => mem_r (mem_r (mem_l h))) (x := y))
        have hA' : st'.a b = some (.map true ty kj.τ ej.τ l) := by rw [← (hag (.a b) (by simp) : st.a b = st'.a b)]; exact hA
        rw [hx] at hxd
        generalize he : a.eval x = u at hxd
        cases hxd with
        | own hρ =>
          obtain ⟨u', q1, q2⟩ := hr.mem.arr b _ hA'
          rw [hρ] at q1; injection q1 with q1; subst q1
          rcases q2 with ⟨q2, _⟩ | ⟨r, es, clock, rfl, h2, h3⟩
          · cases q2
          have hu := key_is m3 hkd
          obtain ⟨r1, r2⟩ := run_mapUpdate (P := P) (w := w) (z := a.eval y) m1 m2 h2 hu
          obtain ⟨_, hf⟩ := map_find h3 m3 hkd
          rcases hf with ⟨f1, f0, _, f2⟩ | ⟨j, e, p, f1, f2, f3, _, _, f6⟩
          · have hm0 := h3
            rw [← f2] at hm0
            have hR := hr.mapSet hA' hρ h2 (hm0.more (e := { key := a.eval ix, val := a.eval y, born := clock }) (stamped_push h3.st f0) (by rw [Array.toList_push]; exact List.perm_append_singleton _ _) hkd hvd (keyO kj.τ))
            refine ⟨undef, ρ, F, _, .inr ⟨?_, rfl⟩, hR, fun _ h => h, fun _ h => .inl h⟩
            simp only [execOp, he, r1 f1, Sem.run_bind, Sem.run_pure, Result.andThen_ok]
          · have hR := hr.mapSet hA' hρ h2 (f6.more (e := { e with key := a.eval ix, val := a.eval y }) (stamped_modify h3.st j (fun e => { e with key := a.eval ix, val := a.eval y }) (fun _ _ => rfl) (fun e' _ he' => by rw [f2] at he'; injection he' with he'; subst he'; exact f3.symm)) (modify_perm _ f2) hkd hvd (keyO kj.τ))
            refine ⟨undef, ρ, F, _, .inr ⟨?_, rfl⟩, hR, fun _ h => h, fun _ h => .inl h⟩
            simp only [execOp, he, r2 j e f1 f2 f3, Sem.run_bind, Sem.run_pure, Result.andThen_ok]
      · cases h
    · cases h
  · cases h

def evMapDel (Γ : List TI) (st : St) (t : TypeId) (x ix : Operand) : Option MR :=
  match mapTy Γ t, st.ev x with
  | some (kj, ej), .own b => match st.a b, (st.ev ix).dat kj.τ with
    | some (.map true ty k v l), some key => if h : k = kj.τ ∧ v = ej.τ then some ⟨true, opKeys x ++ (opKeys ix ++ [.a b]), [.a b (some (.map true ty kj.τ ej.τ (mdel (keyO kj.τ) (h.1 ▸ h.2 ▸ l : List (kj.τ.den × ej.τ.den)) key)))]⟩ else none
    | _, _ => none
  | _, _ => none
theorem heap_self {r : Nat} {o : Obj} (hb : w.heap[r]? = some o) : w.heap.setIfInBounds r o = w.heap := by
  apply Array.ext_getElem?
  intro i
  rw [Array.getElem?_setIfInBounds]
  split
  · rename_i e; subst e
    rw [if_pos (Array.getElem?_eq_some_iff.1 hb).1, hb]
  · rfl
theorem run_delete {t kt et : TypeId} {d : TypeDesc} (ht : P.underlying t = some (.map kt et)) (hd : P.underlying kt = some d) {r : Nat} {es : Array MapEntry} {clock : Nat} (hb : w.heap[r]? = some (.map es clock)) {u : Value} (hu : IsKey d u) {ty : TypeId} {ats : Array TypeId} (hats : ats[0]? = some t) :
    (Instr.findNow d u es.toList 0 = some none → (Builtin.delete_ ats ty #[.map (some r), u]).run P w = .ok (.tuple #[]) w) ∧
    ∀ j z, Instr.findNow d u es.toList 0 = some (some (j, z)) → (Builtin.delete_ ats ty #[.map (some r), u]).run P w = .ok (.tuple #[]) { w with heap := w.heap.setIfInBounds r (.map (es.eraseIdxIfInBounds j) clock) } := by
  constructor
  · intro h1
    simp [Builtin.delete_, hats, run_underlying ht, MapKept.run_getObj_map hb, run_checkKey hd hu, run_findKey hd h1, run_setObj_map _ hb, Result.andThen, heap_self hb]
  · intro j z h1
    simp [Builtin.delete_, hats, run_underlying ht, MapKept.run_getObj_map hb, run_checkKey hd hu, run_findKey hd h1, run_setObj_map _ hb, Result.andThen]
theorem evMapDel_ok (hΓ : Tys P Γ) {t t2 : TypeId} {dst : Option Nat} {x ix : Operand} {r : MR} (h : evMapDel Γ st t x ix = some r) (hdst : ∀ d, dst = some d → False) : MOk P w0 M N F0 ops st dst (.call { callee := .builtin .delete, args := #[x, ix], argTypes := #[t, t2] }) rty r := by
  cases dst with
  | some d => exact (hdst d rfl).elim
  | none =>
  unfold evMapDel at h
  split at h
  · rename_i kj ej b hm hx
    obtain ⟨m1, m2, m3, m4, m5⟩ := mapTy_ok hΓ hm
    split at h
    · rename_i ty k v l key hA hk
      split at h
      · rename_i hkv
        obtain ⟨rfl, rfl⟩ := hkv
        injection h with h; subst h
        intro pos af
        refine RT.stepW rfl fun st' hag F ρ a w hr => ?_
        have hxd := hr.evx hag (fun _ h => mem_l h) (x := x)
        have hkd := dat_den hk (hr.evx hag (fun _ h => mem_r (mem_l h)) (x := ix))
        have hA' : st'.a b = some (.map true ty kj.τ ej.τ l) := by rw [← (hag (.a b) (by simp) : st.a b = st'.a b)]; exact hA
        rw [hx] at hxd
        generalize he : a.eval x = u at hxd
        cases hxd with
        | own hρ =>
          obtain ⟨u', q1, q2⟩ := hr.mem.arr b _ hA'
          rw [hρ] at q1; injection q1 with q1; subst q1
          rcases q2 with ⟨q2, _⟩ | ⟨r, es, clock, rfl, h2, h3⟩
          · cases q2
          have hu := key_is m3 hkd
          obtain ⟨r1, r2⟩ := run_delete (P := P) (w := w) (ty := rty) (ats := #[t, t2]) m1 m2 h2 hu rfl
          obtain ⟨_, hf⟩ := map_find h3 m3 hkd
          rcases hf with ⟨f1, _, _, f2⟩ | ⟨j, e, p, f1, _, _, _, _, f6⟩
          · have hR := hr.mapSet hA' hρ h2 h3
            rw [heap_self h2] at hR
            refine ⟨.tuple #[], ρ, F, w, .inl ?_, ?_, fun _ h => h, fun _ h => .inl h⟩
            · simp only [execOp, resolve, invoke, builtin, Sem.run_bind, Sem.run_pure, Result.andThen_ok, List.map_toArray, List.map_cons, List.map_nil, he, r1 f1]
            · show Rel' P w0 M N F ρ (st'.put (.a b (some (.map true ty kj.τ ej.τ (mdel (keyO kj.τ) l key))))) a w
              rw [f2]
              exact hR
          · have hR := hr.mapSet hA' hρ h2 f6
            refine ⟨.tuple #[], ρ, F, _, .inl ?_, hR, fun _ h => h, fun _ h => .inl h⟩
            simp only [execOp, resolve, invoke, builtin, Sem.run_bind, Sem.run_pure, Result.andThen_ok, List.map_toArray, List.map_cons, List.map_nil, he, r2 j e.val f1]
      · cases h
    · cases h
  · cases h

/-- An operation on a map. -/
def evMapV (Γ : List TI) (st : St) : Op → Option VR
  | .lookup t x ix ok => evLookup Γ st t x ix ok
  | .call ⟨.builtin .len, ⟨[x]⟩, ⟨[t]⟩⟩ => evLenM Γ st t x
  | _ => none
theorem evMapV_ok (hΓ : Tys P Γ) {op : Op} {r : VR} (h : evMapV Γ st op = some r) : VOk P w0 M N st op rty r := by
  unfold evMapV at h
  split at h
  · exact evLookup_ok hΓ h
  · exact evLenM_ok hΓ h
  · cases h
def evMapM (Γ : List TI) (st : St) (N : Nat) (dst : Option Nat) : Op → Option MR
  | .makeMap t none => match dst with
    | some d => evMakeMap Γ st N d t
    | none => none
  | .mapUpdate t x ix y => match dst with
    | none => evMapUpd Γ st t x ix y
    | some _ => none
  | .call ⟨.builtin .delete, ⟨[x, ix]⟩, ⟨[t, t2]⟩⟩ => match dst with
    | none => evMapDel Γ st t x ix
    | some _ => none
  | _ => none
theorem evMapM_ok (hΓ : Tys P Γ) {dst : Option Nat} {op : Op} {r : MR} (h : evMapM Γ st N dst op = some r) : MOk P w0 M N F0 ops st dst op rty r := by
  unfold evMapM at h
  split at h
  all_goals first | (cases h; done) | (split at h <;> first | (cases h; done) | skip)
  · exact evMakeMap_ok h
  · exact evMapUpd_ok hΓ h
  · exact evMapDel_ok hΓ h (fun d e => by cases e)
end
end Go.Sq
