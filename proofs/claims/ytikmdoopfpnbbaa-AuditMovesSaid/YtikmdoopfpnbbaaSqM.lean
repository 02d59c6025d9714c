/- The second engine, part M: arrays that a call makes: literals, append, make, a shorter one. No condition. -/
import Derived.Test.YtikmdoopfpnbbaaSqL
import Derived.Lib.AppendZerosOnto
import Derived.Lib.AppendStr
import Derived.Lib.UnsafeStr
namespace Go.Sq
open Go Go.RowKit
def fits (n b : Nat) : Bool := Nat.ble (n * b) 140737488355328
def Ob.as (e : Ty) : Ob → Option (List e.den)
 | .arr _ e' l => if h : e' = e then some (h ▸ l) else none
 | _ => none
def Ob.ty : Ob → TypeId
 | .arr t _ _ => t
 | .map _ t _ _ _ => t
 | .iter _ _ _ _ => 0
 | .nest t _ _ _ _ _ => t
section
variable {P : Program} {w0 : World} {M : Mod} {N : Nat} {F0 : Nat → Prop} {ops : Array Oper} {st : St} {Γ : List TI} {rty : TypeId}
variable {F : Nat → Prop} {ρ : Env} {a : Act} {w : World}
theorem Ob.as_spec {A : Ob} {e : Ty} {l : List e.den} (h : A.as e = some l) : A = .arr A.ty e l := by
 cases A with
 | arr t e' l' =>
  simp only [Ob.as] at h
  split at h
  ·rename_i he
   subst he; injection h with h; subst h; rfl
  ·cases h
 | map => cases h
 | iter => cases h
 | nest => cases h
/-! ### Slice literals -/
def evBSl (Γ : List TI) (st : St) (t : TypeId) (len : Nat) (parts : List (Nat × Operand)) : Option (TypeId × (τ : Ty) × List τ.den) :=
 match look Γ t with
 | some i => match i.desc with
  | .slice e => match look Γ e with
   | some j => bif Nat.beq j.size j.τ.size && Nat.blt 0 j.size && Nat.ble (len * j.size) 16777216 && j.zero.cells.toList.all (·.oneCell') && Nat.beq j.zero.cells.size j.size then
     match fillS (fun i => some (i * j.size, j.size)) (List.replicate (len * j.size) .any) (parts.map fun p => (p.1, st.ev p.2)) with
     | some cs => match asmN j.τ len cs with
      | some l => some (e, ⟨j.τ, l⟩)
      | none => none
     | none => none
    else none
   | none => none
  | _ => none
 | none => none
def bslCs (Γ : List TI) (st : St) (t : TypeId) (len : Nat) (parts : List (Nat × Operand)) : Option (List SV) :=
 match look Γ t with
 | some i => match i.desc with
  | .slice e => match look Γ e with
   | some j => fillS (fun i => some (i * j.size, j.size)) (List.replicate (len * j.size) .any) (parts.map fun p => (p.1, st.ev p.2))
   | none => none
  | _ => none
 | none => none
def qiD (Γ : List TI) (st : St) (N d : Nat) (t : TypeId) (len : Nat) (parts : List (Nat × Operand)) : Option MR :=
 match evBSl Γ st t len parts with
 | some (e, ⟨τ, l⟩) => bif Nat.blt d N && !st.d (fresh st d 8 0) then some ⟨true, qcx parts ++ [.d (fresh st d 8 0)], [.d (fresh st d 8 0), .a (fresh st d 8 0) (some (.arr e τ l)), .r d (.own (fresh st d 8 0))]⟩ else none
 | none => none
def qgZ (Γ : List TI) (st : St) (N d : Nat) (t : TypeId) (len : Nat) (parts : List (Nat × Operand)) : Option MR :=
 match evBSl Γ st t len parts with
 | some (_, ⟨τ, l⟩) => bif Nat.blt d N then some ⟨true, qcx parts, [.r d (.v (.sl τ) l)]⟩ else none
 | none => none
theorem qe9 (hΓ : Tys P Γ) {t : TypeId} {len : Nat} {parts : List (Nat × Operand)} {e : TypeId} {τ : Ty} {l : List τ.den} (h : evBSl Γ st t len parts = some (e, ⟨τ, l⟩)) {st' : St} {rd : List Key} (hag : ∀ κ ∈ rd, agree st st' κ) (hrd : ∀ κ ∈ qcx parts, κ ∈ rd)
  {F : Nat → Prop} {ρ : Env} {a : Act} {w : World} (hr : Rel' P w0 M N F ρ st' a w) : ∃ arr', (Instr.buildSlice t len (parts.toArray.map fun (i, x) => (i, a.eval x))).run P w = .ok (.slice (some ⟨w.heap.size, 0, none⟩) len len) (w.alloc (.cells arr' e)) ∧
   ObOk0 F (w.alloc (.cells arr' e)) (.arr e τ l) (.slice (some ⟨w.heap.size, 0, none⟩) len len) ∧ arr'.size = len * τ.size ∧ l.length = len ∧ ∀ cs, bslCs Γ st t len parts = some cs → ∀ (q : Nat) (s : SV) (u : Value), cs[q]? = some s → arr'[q]? = some u → Den P F w ρ s u := by
 unfold evBSl at h
 split at h
 ·rename_i i hl
  obtain ⟨hi, rfl⟩ := qab hΓ hl
  split at h
  ·rename_i e hd
   split at h
   ·rename_i j hl2
    obtain ⟨hj, rfl⟩ := qab hΓ hl2
    generalize hc : (Nat.beq j.size j.τ.size && Nat.blt 0 j.size && Nat.ble (len * j.size) 16777216 && j.zero.cells.toList.all (·.oneCell') && Nat.beq j.zero.cells.size j.size) = c at h
    cases c with
    | false => cases h
    | true =>
     simp only [cond_true] at h
     simp only [Bool.and_eq_true] at hc
     obtain ⟨⟨⟨⟨c3, c4⟩, c5⟩, c6⟩, c7⟩ := hc
     rw [Nat.blt_eq] at c4
     have c3 := Nat.eq_of_beq_eq_true c3
     have c5 := Nat.le_of_ble_eq_true c5
     have c7 := Nat.eq_of_beq_eq_true c7
     split at h
     ·rename_i cs hf
      split at h
      ·rename_i l' hasm
       injection h with h; injection h with h1 h2; subst h1
       injection h2 with h2 h3; subst h2; have h3 := eq_of_heq h3; subst h3
       have hu := hi.und
       rw [hd] at hu
       let z0 : Array Value := if len * j.size = 0 then #[] else j.zero.cells
       let base : Array Value := (Array.range (len * j.size)).map (z0[· % z0.size]!)
       have hbase : ∀ x ∈ base, x.oneCell' = true := by
        intro x hx
        simp only [base, Array.mem_map, Array.mem_range] at hx
        obtain ⟨q, hq, rfl⟩ := hx
        have hne : len * j.size ≠ 0 := by omega
        have hz0 : z0 = j.zero.cells := by simp only [z0]; rw [if_neg hne]
        have hall : ∀ v ∈ z0, v.oneCell' = true := by
         rw [hz0]
         simp only [List.all_eq_true] at c6
         intro v hv; exact c6 v (by simpa using hv)
        have hlt : q % z0.size < z0.size := Nat.mod_lt _ (by rw [hz0, c7]; exact c4)
        rw [getElem!_pos z0 _ hlt]
        exact hall _ (Array.getElem_mem hlt)
       have hDC : DenCs P F w ρ (List.replicate (len * j.size) .any) (fun q => base[q]?) base.size := by
        refine ⟨by simp [base], fun q s x hs hx => ?_⟩
        have : s = .any := by
         have := List.mem_of_getElem? hs
         exact (List.mem_replicate.1 this).2
        subst this
        exact ⟨.any x, hbase x (Array.mem_of_getElem? hx)⟩
       obtain ⟨arr', k1, k2⟩ := qeE hr.mem.one (fun i => some (i * j.size, j.size)) (parts.map fun p => (p.1, st.ev p.2)) (parts.map fun p => (p.1, a.eval p.2)) _ cs _ hDC (by simp) (by
        intro q p p' hp hq
        rw [List.getElem?_map] at hp hq
        cases hx : parts[q]? with
        | none => rw [hx] at hq; cases hq
        | some r =>
         rw [hx] at hp hq
         simp only [Option.map_some, Option.some.injEq] at hp hq
         subst hp hq
         exact ⟨rfl, hr.evx hag (fun κ hκ => hrd κ (qch (List.mem_of_getElem? hx) κ hκ))⟩) hf
       have hrun : (Instr.buildSlice i.t len (parts.toArray.map fun (i, x) => (i, a.eval x))).run P w = .ok (.slice (some ⟨w.heap.size, 0, none⟩) len len) (w.alloc (.cells arr' j.t)) := by
        have hb : ¬ (len * j.size > 2 ^ 24) := by omega
        unfold Instr.buildSlice
        simp only [Sem.run_bind, run_underlying hu, Result.andThen_ok, run_sizeOf' hj, if_neg hb]
        by_cases h0 : len * j.size = 0
        ·simp only [base, z0, if_pos h0] at k1
         rw [if_pos h0]
         simp only [Sem.run_bind, Sem.run_pure, Result.andThen_ok, List.map_toArray, k1, newRow, run_newObj]
         rfl
        ·simp only [base, z0, if_neg h0] at k1
         rw [if_neg h0]
         simp only [Sem.run_bind, Sem.run_pure, Result.andThen_ok, run_zeroValue' hj, List.map_toArray, k1, newRow, run_newObj]
         rfl
       obtain ⟨m1, m2, m3⟩ := qlD (P := P) (F := F) (w := w) (ρ := ρ) (vs := arr'.toList) hasm (by simpa using k2.1) (fun q s u hs hu => (k2.2 q s u hs (by simpa using hu)).1)
       have hob : ObOk0 F (w.alloc (.cells arr' j.t)) (.arr j.t j.τ l') (.slice (some ⟨w.heap.size, 0, none⟩) len len) := by
        have hlen : arr'.size = len * j.τ.size := by simpa using m2
        have hcm : len ≤ maxLen := by
         have h2 : len ≤ len * j.size := Nat.le_mul_of_pos_right _ c4
         simp only [maxLen]; omega
        refine ⟨arr'.toList, .of ⟨by simp [hlen, m1], .inr ⟨w.heap.size, len, arr', by rw [m1], Nat.zero_le _, heap_alloc_new w _, by rw [m1]; exact Nat.le_refl _, hcm, hlen, ?_⟩⟩, fun q x hx => ?_⟩
        ·rw [m1, ← hlen]; exact List.take_of_length_le (by simp)
        ·exact (m3 q x hx).mono (fun _ h => h) (fun g hF => Below.heap_alloc w _ _ (hr.mem.fb _ hF))
       refine ⟨arr', hrun, hob, by simpa using m2, m1, fun cs' hcs q s u hs hu => ?_⟩
       have hcs' : cs' = cs := by
        unfold bslCs at hcs
        rw [hl] at hcs
        simp only [hd, hl2] at hcs
        rw [hf] at hcs; injection hcs with hcs; exact hcs.symm
       subst hcs'
       exact (k2.2 q s u hs hu).1
      ·cases h
     ·cases h
   ·cases h
  ·cases h
 ·cases h
theorem qkE (hΓ : Tys P Γ) {d : Nat} {t : TypeId} {len : Nat} {parts : List (Nat × Operand)} {r : MR} (h : qiD Γ st N d t len parts = some r) : MOk P w0 M N F0 ops st (some d) (.buildSlice t len parts.toArray) rty r := by
 unfold qiD at h
 split at h
 ·rename_i e τ l hl
  cases hb : (Nat.blt d N && !st.d (fresh st d 8 0)) with
  | false => rw [hb] at h; cases h
  | true =>
   rw [hb] at h; injection h with h; subst h
   rw [Bool.and_eq_true, Nat.blt_eq, Bool.not_eq_true'] at hb
   intro pos af
   refine RT.stepW rfl fun st' hag F ρ a w hr => ?_
   have hd' : st'.d (fresh st d 8 0) = false := by rw [← hb.2]; exact (hag (.d _) (by simp)).symm
   obtain ⟨arr', h1, h2, _⟩ := qe9 hΓ hl hag (fun κ hκ => mem_l hκ) hr
   refine ⟨_, _, F, _, .inl ?_, hr.newA hd' hb.1 (qcv w (.cells arr' e)) h2 (fun g hg => by rw [qct hg]; exact Nat.le_refl _), fun _ h => h, fun _ h => .inl h⟩
   simp only [execOp, Sem.run_bind, h1, Result.andThen_ok, Sem.run_pure]
 ·cases h
theorem ob_rd {K : Nat → Prop} {ty : TypeId} {e : Ty} {l : List e.den} {u : Value} (h : ObOk F w K (.arr ty e l) u) : RdV (fun g => F g ∨ blkOf u = some g) w (.sl e) l u := by
 obtain ⟨xs, a2, a3⟩ := h
 rcases a2.2 with ⟨ad, rfl, hn⟩ | ⟨g, cap, cur, rfl, hcur, a4, a5, _⟩
 ·have := List.eq_nil_of_length_eq_zero hn
  subst this
  cases ad with
  | none => exact ⟨[.slice none 0 0], ⟨none, 0, rfl, rfl⟩, rfl⟩
  | some ad => exact ⟨[.slice (some ad) 0 0], ⟨some ad, 0, rfl, fun h => by omega, Nat.le_refl _, Nat.zero_le _, fun i x hx => by simp at hx⟩, rfl⟩
 ·refine ⟨[.slice (some ⟨g, 0, none⟩) l.length (cap + 1)], ⟨some ⟨g, 0, none⟩, cap + 1, rfl, fun _ => .inr rfl, a4, a5, fun i x hx => ⟨_, (a3 i x hx).mono (fun _ h => .inl h) (fun _ _ => rfl), fun j v hj => ?_⟩⟩, rfl⟩
  rw [List.getElem?_take] at hj
  split at hj
  ·rw [List.getElem?_drop] at hj; exact a2.cells (g := g) rfl _ _ hj
  ·cases hj
theorem qjF (hΓ : Tys P Γ) {d : Nat} {t : TypeId} {len : Nat} {parts : List (Nat × Operand)} {r : MR} (h : qgZ Γ st N d t len parts = some r) : MOk P w0 M N F0 ops st (some d) (.buildSlice t len parts.toArray) rty r := by
 unfold qgZ at h
 split at h
 ·rename_i e τ l hl
  cases hb : Nat.blt d N with
  | false => rw [hb] at h; cases h
  | true =>
   rw [hb] at h; injection h with h; subst h
   rw [Nat.blt_eq] at hb
   intro pos af
   refine RT.stepW rfl fun st' hag F ρ a w hr => ?_
   obtain ⟨arr', h1, h2, _⟩ := qe9 hΓ hl hag (fun κ hκ => hκ) hr
   have hg := hr.grow (F' := fun g => F g ∨ g = w.heap.size) (qcv w (.cells arr' e)) (fun _ h => .inl h) (fun g h => h.elim .inl (fun h => .inr (by omega))) (fun g h => by
    have hs : (w.alloc (.cells arr' e)).heap.size = w.heap.size + 1 := by simp
    rcases h with h | h
    ·have := hr.mem.fb g h; omega
    ·omega)
   have hrd := ob_rd h2
   have hrd : RdV (fun g => F g ∨ g = w.heap.size) (w.alloc (.cells arr' e)) (.sl τ) l (.slice (some ⟨w.heap.size, 0, none⟩) len len) := by
    obtain ⟨cs, q1, q2⟩ := hrd
    exact ⟨cs, q1.mono (fun g h => h.elim .inl fun h => .inr (qct h)) (fun _ _ => rfl), q2⟩
   refine ⟨_, ρ, _, _, .inl ?_, hg.setR hb (.v hrd), fun _ h => .inl h, fun g h => h.elim .inl (fun h => .inr (.inr (by have := hr.fr.size; omega)))⟩
   simp only [execOp, Sem.run_bind, h1, Result.andThen_ok, Sem.run_pure]
 ·cases h
/-! ### append -/
theorem qec {e : Ty} {l : List e.den} {u : Value} (h : RdV F w (.sl e) l u) : (∃ c, u = .slice none 0 c ∧ l = []) ∨ ∃ (ad : Addr) (c : Nat) (news : List Value), u = .slice (some ad) l.length c ∧ news.length = l.length * e.size ∧
  (∀ j u, news[j]? = some u → w.cell? (ad.add j) = some u ∧ u.oneCell' = true) ∧ ∀ (i : Nat) (x : e.den), l[i]? = some x → RdC F w e x ((news.drop (i * e.size)).take e.size) := by
 obtain ⟨cs, ⟨ad, cap, rfl, h2⟩, rfl⟩ := h
 cases ad with
 | none =>
  have h2 : l = [] := h2
  subst h2
  exact .inl ⟨cap, rfl, rfl⟩
 | some ad =>
  obtain ⟨h3, h4, h5, h6⟩ := h2
  have hel : ∀ i x, l[i]? = some x → ∃ es, RdC F w e x es ∧ ∀ j v, es[j]? = some v → w.cell? (ad.add (i * e.size + j)) = some v := h6
  have hcell : ∀ i j, i < l.length → j < e.size → ∃ u, w.cell? (ad.add (i * e.size + j)) = some u ∧ u.oneCell' = true := by
   intro i j hi hj
   obtain ⟨es, a1, a2⟩ := hel i _ (List.getElem?_eq_getElem hi)
   have hjl : j < es.length := by rw [a1.size]; exact hj
   exact ⟨es[j], a2 j _ (List.getElem?_eq_getElem hjl), a1.one _ (List.getElem_mem hjl)⟩
  refine .inr ⟨ad, cap, (List.range (l.length * e.size)).map fun j => (w.cell? (ad.add j)).getD undef, rfl, by simp, fun j u hu => ?_, fun i x hx => ?_⟩
  ·have hj : j < l.length * e.size := by simpa using (List.getElem?_eq_some_iff.1 hu).1
   have hk : 0 < e.size := by
    rcases Nat.eq_zero_or_pos e.size with h0 | h0
    ·rw [h0] at hj; simp at hj
    ·exact h0
   obtain ⟨v, b1, b2⟩ := hcell (j / e.size) (j % e.size) (Nat.div_lt_of_lt_mul (by rw [Nat.mul_comm]; exact hj)) (Nat.mod_lt _ hk)
   rw [show j / e.size * e.size + j % e.size = j by rw [Nat.mul_comm]; exact Nat.div_add_mod j e.size] at b1
   simp [hj, b1] at hu
   subst hu; exact ⟨b1, b2⟩
  ·obtain ⟨es, a1, a2⟩ := hel i x hx
   have hi : i < l.length := (List.getElem?_eq_some_iff.1 hx).1
   have hrow : i * e.size + e.size ≤ l.length * e.size := by
    have := Nat.mul_le_mul_right e.size (show i + 1 ≤ l.length from hi)
    rwa [Nat.add_mul, Nat.one_mul] at this
   have hes : ((((List.range (l.length * e.size)).map fun j => (w.cell? (ad.add j)).getD undef).drop (i * e.size)).take e.size) = es := by
    apply List.ext_getElem?
    intro q
    by_cases hq : q < e.size
    ·rw [List.getElem?_take, if_pos hq, List.getElem?_drop]
     have hqe : q < es.length := by rw [a1.size]; exact hq
     have := a2 q _ (List.getElem?_eq_getElem hqe)
     simp [show i * e.size + q < l.length * e.size by omega, this, hqe]
    ·rw [List.getElem?_take, if_neg hq, List.getElem?_eq_none (by rw [a1.size]; omega)]
   rw [hes]; exact a1
theorem qfw {b : Nat} {ty : TypeId} {e : Ty} {l : List e.den} {u : Value} (h : MemOk P F w ρ st) (hA : st.a b = some (.arr ty e l)) (hρ : ρ b = some u) : (∃ c, u = .slice none 0 c ∧ l = []) ∨ ∃ (ad : Addr) (c : Nat) (news : List Value), u = .slice (some ad) l.length c ∧ news.length = l.length * e.size ∧
  (∀ j u, news[j]? = some u → w.cell? (ad.add j) = some u ∧ u.oneCell' = true) ∧ ∀ (i : Nat) (x : e.den), l[i]? = some x → RdC F w e x ((news.drop (i * e.size)).take e.size) := by
 obtain ⟨u', a1, xs, a2, a3⟩ := h.arr b _ hA
 rw [hρ] at a1; injection a1 with a1; subst a1
 rcases a2.2 with ⟨ad, rfl, hn⟩ | ⟨g, cap, cur, rfl, hcur, _⟩
 ·have hl0 := List.eq_nil_of_length_eq_zero hn
  subst hl0
  cases ad with
  | none => exact .inl ⟨_, rfl, rfl⟩
  | some ad => exact .inr ⟨ad, 0, [], rfl, by simp, fun j u hu => by simp at hu, fun i x hx => by simp at hx⟩
 ·refine .inr ⟨⟨g, 0, none⟩, cap + 1, xs, rfl, a2.1, fun j u hu => ⟨a2.cells (g := g) rfl j u hu, ?_⟩, a3⟩
  have hj : j < l.length * e.size := by rw [← a2.1]; exact (List.getElem?_eq_some_iff.1 hu).1
  have hk : 0 < e.size := by
   rcases Nat.eq_zero_or_pos e.size with h0 | h0
   ·rw [h0] at hj; simp at hj
   ·exact h0
  have hi : j / e.size < l.length := Nat.div_lt_of_lt_mul (by rw [Nat.mul_comm]; exact hj)
  have hd := a3 (j / e.size) _ (List.getElem?_eq_getElem hi)
  refine hd.one u ?_
  have e1 : ((xs.drop (j / e.size * e.size)).take e.size)[j % e.size]? = some u := by
   rw [List.getElem?_take, if_pos (Nat.mod_lt _ hk), List.getElem?_drop, show j / e.size * e.size + j % e.size = j by rw [Nat.mul_comm]; exact Nat.div_add_mod j e.size]
   exact hu
  exact List.mem_of_getElem? e1
def oldOf (st : St) (te : TypeId) (e : Ty) : SV → Option (List e.den × List Key × List Wr)
 | .raw (.slice none 0 0) => some ([], [], [])
 | .own b => match st.a b with
  | some A => match A.as e with
   | some l => bif Nat.beq A.ty te then some (l, [.a b], [.a b none]) else none
   | none => none
  | none => none
 | _ => none
def qie (st : St) (e : Ty) : SV → Option (List e.den × List Key)
 | .own b => match st.a b with
  | some A => match A.as e with
   | some l => some (l, [.a b])
   | none => none
  | none => none
 | s => match s.as (.sl e) with
  | some l => some (l, [])
  | none => none
def qiE (Γ : List TI) (st : St) (N d : Nat) (t t2 : TypeId) (x y : Operand) : Option MR :=
 match look Γ t with
 | some i => match i.desc with
  | .slice e => match look Γ e with
   | some j => bif Nat.blt d N && !st.d (fresh st d 8 0) && Nat.beq j.size j.τ.size && Nat.blt 0 j.size && Nat.blt 0 j.bytes && Nat.beq j.zero.cells.size j.size && Nat.beq t t2 then
     match oldOf st e j.τ (st.ev x), qie st j.τ (st.ev y) with
     | some (l, ks, ws), some (l2, ks2) => some ⟨fits (l.length + l2.length) j.bytes, qaa x ++ (qaa y ++ (.d (fresh st d 8 0) :: (ks ++ ks2))), ws ++ [.d (fresh st d 8 0), .a (fresh st d 8 0) (some (.arr e j.τ (l ++ l2))), .r d (.own (fresh st d 8 0))]⟩
     | _, _ => none
    else none
   | none => none
  | _ => none
 | none => none
theorem qcN {e : Ty} {l l2 : List e.den} {xs news : List Value} {w' : World} (h1 : xs.length = l.length * e.size) (hx : ∀ (i : Nat) (x : e.den), l[i]? = some x → RdC F w' e x ((xs.drop (i * e.size)).take e.size))
  (hn : ∀ (i : Nat) (x : e.den), l2[i]? = some x → RdC F w' e x ((news.drop (i * e.size)).take e.size)) (i : Nat) (x : e.den) (h : (l ++ l2)[i]? = some x) : RdC F w' e x (((xs ++ news).drop (i * e.size)).take e.size) := by
 by_cases hi : i < l.length
 ·rw [List.getElem?_append_left hi] at h
  have hrow : i * e.size + e.size ≤ l.length * e.size := by
   have := Nat.mul_le_mul_right e.size (show i + 1 ≤ l.length from hi)
   rwa [Nat.add_mul, Nat.one_mul] at this
  rw [List.drop_append_of_le_length (by omega), List.take_append_of_le_length (by simp; omega)]
  exact hx i x h
 ·rw [List.getElem?_append_right (by omega)] at h
  have := hn _ x h
  have e1 : i * e.size = xs.length + (i - l.length) * e.size := by
   rw [h1, ← Nat.add_mul]; congr 1; omega
  rw [e1, List.drop_append, List.drop_of_length_le (by omega), List.nil_append, Nat.add_sub_cancel_left]
  exact this
theorem qkF (hΓ : Tys P Γ) {d : Nat} {t t2 : TypeId} {x y : Operand} {r : MR} (h : qiE Γ st N d t t2 x y = some r) (hg : r.g = true) :
  MOk P w0 M N F0 ops st (some d) (.call { callee := .builtin .append, args := #[x, y], argTypes := #[t, t2] }) rty r := by
 unfold qiE at h
 split at h
 ·rename_i i hl
  obtain ⟨hi, rfl⟩ := qab hΓ hl
  split at h
  ·rename_i e hd
   split at h
   ·rename_i j hl2
    obtain ⟨hj, rfl⟩ := qab hΓ hl2
    generalize hc : (Nat.blt d N && !st.d (fresh st d 8 0) && Nat.beq j.size j.τ.size && Nat.blt 0 j.size && Nat.blt 0 j.bytes && Nat.beq j.zero.cells.size j.size && Nat.beq i.t t2) = c at h
    cases c with
    | false => cases h
    | true =>
     simp only [cond_true] at h
     simp only [Bool.and_eq_true, Bool.not_eq_true'] at hc
     obtain ⟨⟨⟨⟨⟨⟨c1, c2⟩, c3⟩, c4⟩, c5⟩, c6⟩, c7⟩ := hc
     rw [Nat.blt_eq] at c1 c4 c5
     have c3 := Nat.eq_of_beq_eq_true c3
     have c6 := Nat.eq_of_beq_eq_true c6
     have c7 := Nat.eq_of_beq_eq_true c7
     subst c7
     split at h
     ·rename_i l ks ws l2 ks2 hold hnew
      injection h with h; subst h
      have hfit := Nat.le_of_ble_eq_true hg
      have hbig : l.length + l2.length ≤ 140737488355328 := Nat.le_trans (Nat.le_mul_of_pos_right _ c5) hfit
      intro pos af
      refine RT.stepW rfl fun st' hag F ρ a w hr => ?_
      have hd' : st'.d (fresh st d 8 0) = false := by rw [← c2]; exact (hag (.d _) (by simp)).symm
      have hu := hi.und
      rw [hd] at hu
      have hxd := hr.evx hag (fun _ h => mem_l h) (x := x)
      have hyd := hr.evx hag (fun _ h => mem_r (mem_l h)) (x := y)
      have hinfo := hj.info
      -- the news
      have hns : (∃ c, a.eval y = .slice none 0 c ∧ l2 = []) ∨ ∃ (ad : Addr) (c : Nat) (news : List Value), a.eval y = .slice (some ad) l2.length c ∧ news.length = l2.length * j.τ.size ∧
        (∀ q u, news[q]? = some u → w.cell? (ad.add q) = some u ∧ u.oneCell' = true) ∧ ∀ (q : Nat) (x : j.τ.den), l2[q]? = some x → RdC F w j.τ x ((news.drop (q * j.τ.size)).take j.τ.size) := by
       unfold qie at hnew
       split at hnew
       ·rename_i b hy
        split at hnew
        ·rename_i A hA
         split at hnew
         ·rename_i l' hl'
          injection hnew with hnew; injection hnew with e1 e2; subst e1 e2
          have hA' : st'.a b = some A := by rw [← hA]; exact (hag (.a b) (by simp)).symm
          rw [Ob.as_spec hl'] at hA'
          rw [hy] at hyd
          generalize a.eval y = u at hyd ⊢
          cases hyd with
          | own hρ => exact qfw hr.mem hA' hρ
         ·cases hnew
        ·cases hnew
       ·split at hnew
        ·rename_i l' hl'
         injection hnew with hnew; injection hnew with e1 e2; subst e1 e2
         exact qec (qgf hl' hyd)
        ·cases hnew
      -- the array that is appended to
      have hos : (a.eval x = .slice none 0 0 ∧ l = [] ∧ ws = []) ∨ ∃ b A u, a.eval x = u ∧ ws = [.a b none] ∧ st'.a b = some A ∧ ρ b = some u ∧ A = .arr j.t j.τ l := by
       unfold oldOf at hold
       split at hold
       ·rename_i hx
        injection hold with hold; injection hold with e1 e2; injection e2 with e2 e3; subst e1 e2 e3
        rw [hx] at hxd
        generalize a.eval x = u at hxd ⊢
        cases hxd with
        | raw => exact .inl ⟨rfl, rfl, rfl⟩
       ·rename_i b hx
        split at hold
        ·rename_i A hA
         split at hold
         ·rename_i l' hl'
          cases hb : Nat.beq A.ty j.t with
          | false => rw [hb] at hold; cases hold
          | true =>
           rw [hb] at hold; injection hold with hold; injection hold with e1 e2; injection e2 with e2 e3; subst e1 e2 e3
           have hA' : st'.a b = some A := by rw [← hA]; exact (hag (.a b) (by simp)).symm
           rw [hx] at hxd
           generalize a.eval x = u at hxd ⊢
           cases hxd with
           | own hρ => exact .inr ⟨b, A, u, rfl, rfl, hA', hρ, by rw [Ob.as_spec hl', Nat.eq_of_beq_eq_true hb]⟩
         ·cases hold
        ·cases hold
       ·cases hold
      have hob0 : ∃ xs, OwnR w j.t j.size (a.eval x) l.length xs ∧ ∀ (q : Nat) (x : j.τ.den), l[q]? = some x → RdC F w j.τ x ((xs.drop (q * j.τ.size)).take j.τ.size) := by
       rcases hos with ⟨h1, h2, _⟩ | ⟨b, A, u, h1, _, h3, h4, h5⟩
       ·subst h2; rw [h1]; exact ⟨[], OwnR.nil w j.t j.size none, fun q x hx => by simp at hx⟩
       ·obtain ⟨u', g1, xs, g2, g3⟩ := hr.mem.arr b A h3 |> fun h => by rw [h5] at h; exact h
        rw [h4] at g1; injection g1 with g1; subst g1
        rw [h1, c3]; exact ⟨xs, g2, g3⟩
      obtain ⟨xs, ho1, ho2⟩ := hob0
      have happ : ∃ v' w', (Builtin.append_ #[i.t, i.t] rty #[a.eval x, a.eval y]).run P w = .ok v' w' ∧ ObOk0 F w' (.arr j.t j.τ (l ++ l2)) v' ∧ Fr w (fun g => blkOf (a.eval x) = some g) w' ∧ (blkOf v' = blkOf (a.eval x) ∨ ∀ g, blkOf v' = some g → w.heap.size ≤ g) ∧ (a.eval x = .slice none 0 0 → Fr w (fun _ => False) w' ∧ ∀ g, blkOf v' = some g → w.heap.size ≤ g) := by
       have hFne : ∀ g, F g → ∀ row, blkOf (a.eval x) = row → some g ≠ row := by
        intro g hF row hrow e
        subst e
        rcases hos with ⟨h1, _⟩ | ⟨b, A, u, h1, _, h3, h4, _⟩
        ·rw [h1] at hrow; cases hrow
        ·rw [h1] at hrow
         exact hr.mem.own b u g (.inr (by rw [h3]; simp)) h4 hrow hF
       rcases hns with ⟨c, hy1, hy2⟩ | ⟨ad, c, news, hy1, hy2, hy3, hy4⟩
       ·subst hy2
        have hr1 := qgY (P := P) (w := w) i.t rty j.t j.size j.bytes j.zero hu hinfo (a.eval x) l.length xs ho1 c
        rw [← hy1] at hr1
        refine ⟨_, w, hr1, ⟨xs, by rw [List.append_nil, ← c3]; exact ho1, by rw [List.append_nil]; exact ho2⟩, Fr.refl w _, .inl rfl, fun hnil => ⟨Fr.refl w _, fun g hg => by rw [hnil] at hg; cases hg⟩⟩
       ·obtain ⟨v', w', k1, k2, k3, k4⟩ := qcy (P := P) (w := w) i.t rty j.t j.size j.bytes j.zero hu hinfo c6 c4 (a.eval x) l.length xs ho1 ad l2.length c news (by rw [hy2, c3]) (fun q u h => (hy3 q u h).1) (fun u hu => by
         obtain ⟨q, hq⟩ := List.getElem?_of_mem hu; exact (hy3 q u hq).2) (by simp only [maxLen]; omega) hfit
        rw [← hy1] at k1
        have hFw : ∀ g, F g → w'.heap[g]? = w.heap[g]? := fun g hF => k3.block g (hr.mem.fb g hF) (hFne g hF _ rfl)
        have hc' : ∀ g, F g → w'.heap[g]? = w.heap[g]? := hFw
        have hfr : Fr w (fun g => blkOf (a.eval x) = some g) w' := ⟨k3.os, k3.tape, k3.output, k3.size, fun g hg hn => k3.block g hg (fun e => hn e.symm)⟩
        refine ⟨v', w', k1, ⟨xs ++ news, by rw [List.length_append, ← c3]; exact k2, fun q z hz => qcN (by rw [← c3]; exact ho1.1) (fun q z hz => (ho2 q z hz).mono (fun _ h => h) hc') (fun q z hz => (hy4 q z hz).mono (fun _ h => h) hc') q z hz⟩, hfr, ?_, fun hnil => ⟨⟨k3.os, k3.tape, k3.output, k3.size, fun g hg _ => k3.block g hg (by rw [hnil]; intro e; cases e)⟩, ?_⟩⟩
        ·exact k4
        ·intro g hg
         rcases k4 with k4 | k4
         ·rw [k4, hnil] at hg; cases hg
         ·exact k4 g hg
      obtain ⟨v', w', k1, k2, k3, k4, k5⟩ := happ
      have hexec : (execOp a.eval ⟨some d, .call { callee := .builtin .append, args := #[x, y], argTypes := #[i.t, i.t] }, rty, pos, af, none⟩).run P w = .ok (.value v') w' := by
       simp only [execOp, resolve, invoke, builtin, Sem.run_bind, Sem.run_pure, Result.andThen_ok, List.map_toArray, List.map_cons, List.map_nil, k1]
      rcases hos with ⟨h1, h2, h3⟩ | ⟨b, A, u, h1, h2, h3, h4, h5⟩
      ·subst h3
       obtain ⟨k6, k7⟩ := k5 h1
       exact ⟨v', _, F, w', .inl hexec, hr.newA hd' c1 k6 k2 k7, fun _ h => h, fun _ h => .inl h⟩
      ·subst h2
       rw [h1] at k3 k4
       exact ⟨v', _, F, w', .inl hexec, hr.replA hd' c1 h3 h4 k3 k2 k4, fun _ h => h, fun _ h => .inl h⟩
     ·cases h
   ·cases h
  ·cases h
 ·cases h
/-! ### make -/
def makeG (b : Nat) (m : Int) : Bool := decide (0 ≤ m) && decide ((b : Int) * m ≤ 281474976710656)
def qfa : Operand → Operand → Bool
 | .tmp t, .tmp t' => Nat.beq t t'
 | _, _ => false
def qnG (Γ : List TI) (st : St) (N d : Nat) (t : TypeId) (x y : Operand) : Option MR :=
 match look Γ t with
 | some i => match i.desc with
  | .slice e => match look Γ e with
   | some j => bif Nat.blt d N && !st.d (fresh st d 8 0) && Nat.beq j.size j.τ.size && Nat.blt 0 j.size && Nat.blt 0 j.bytes && Nat.beq j.zero.cells.size j.size then
     match (st.ev x).int?, (st.ev y).int?, asm j.τ (zeroC j.zero) with
     | some (.i64, m), some (.i64, m'), some (z, []) => some ⟨_root_.cond (qfa x y) (makeG j.bytes m) ((decide (0 ≤ m) && decide (m ≤ m')) && makeG j.bytes m'), qaa x ++ (qaa y ++ [.d (fresh st d 8 0)]), [.d (fresh st d 8 0), .a (fresh st d 8 0) (some (.arr e j.τ (List.replicate m.toNat z))), .r d (.own (fresh st d 8 0))]⟩
     | _, _, _ => none
    else none
   | none => none
  | _ => none
 | none => none
theorem qnH (hΓ : Tys P Γ) {d : Nat} {t : TypeId} {x y : Operand} {r : MR} (h : qnG Γ st N d t x y = some r) (hg : r.g = true) : MOk P w0 M N F0 ops st (some d) (.makeSlice t x y) rty r := by
 unfold qnG at h
 split at h
 ·rename_i i hl
  obtain ⟨hi, rfl⟩ := qab hΓ hl
  split at h
  ·rename_i e hd
   split at h
   ·rename_i j hl2
    obtain ⟨hj, rfl⟩ := qab hΓ hl2
    generalize hc : (Nat.blt d N && !st.d (fresh st d 8 0) && Nat.beq j.size j.τ.size && Nat.blt 0 j.size && Nat.blt 0 j.bytes && Nat.beq j.zero.cells.size j.size) = c at h
    cases c with
    | false => cases h
    | true =>
     simp only [cond_true] at h
     simp only [Bool.and_eq_true, Bool.not_eq_true'] at hc
     obtain ⟨⟨⟨⟨⟨c1, c2⟩, c3⟩, c4⟩, c5⟩, c6⟩ := hc
     rw [Nat.blt_eq] at c1 c4 c5
     have c3 := Nat.eq_of_beq_eq_true c3
     have c6 := Nat.eq_of_beq_eq_true c6
     split at h
     ·rename_i m m' z hm hm' hz
      injection h with h; subst h
      obtain ⟨hm0, hle, g1, g2⟩ : 0 ≤ m ∧ m ≤ m' ∧ 0 ≤ m' ∧ (j.bytes : Int) * m' ≤ 281474976710656 := by
       have hg' : _root_.cond (qfa x y) (makeG j.bytes m) ((decide (0 ≤ m) && decide (m ≤ m')) && makeG j.bytes m') = true := hg
       cases hst : qfa x y with
       | true =>
        rw [hst] at hg'
        have hxy : x = y := by
         cases x <;> cases y <;> first | (simp only [qfa] at hst; rw [Nat.eq_of_beq_eq_true hst]) | cases hst
        subst hxy; rw [hm] at hm'; injection hm' with hm'; injection hm' with _ hm'; subst hm'
        simp only [cond_true, makeG, Bool.and_eq_true, decide_eq_true_eq] at hg'
        exact ⟨hg'.1, Int.le_refl _, hg'.1, hg'.2⟩
       | false =>
        rw [hst] at hg'
        simp only [cond_false, makeG, Bool.and_eq_true, decide_eq_true_eq] at hg'
        exact ⟨hg'.1.1, hg'.1.2, hg'.2.1, hg'.2.2⟩
      intro pos af
      refine RT.stepW rfl fun st' hag F ρ a w hr => ?_
      have hd' : st'.d (fresh st d 8 0) = false := by rw [← c2]; exact (hag (.d _) (by simp)).symm
      have hu := hi.und
      rw [hd] at hu
      have hxd := (hr.evx hag (fun _ h => mem_l h) (x := x)).int hm
      have hyd := (hr.evx hag (fun _ h => mem_r (mem_l h)) (x := y)).int hm'
      obtain ⟨inf, i1, i2, i3, i4⟩ := hj.info
      have hmm : ((m.toNat : Nat) : Int) = m := by omega
      have hmm' : ((m'.toNat : Nat) : Int) = m' := by omega
      have hb : (inf.bytes : Int) * m' ≤ 281474976710656 := by rw [i3]; exact g2
      have hsm : m'.toNat ≤ 281474976710656 := by
       have h1 : inf.bytes * m'.toNat ≤ 281474976710656 := by
        have h2 : ((inf.bytes * m'.toNat : Nat) : Int) = (inf.bytes : Int) * m' := by rw [Int.natCast_mul, hmm']
        omega
       rw [i3] at h1; exact Nat.le_trans (Nat.le_mul_of_pos_left _ c5) h1
      have r1 := run_make (P := P) w i.t j.t inf j.zero hu i1 i4 .i64 .i64 m m' hm0 hle hb (by omega)
      rw [i2, c3] at r1
      obtain ⟨w', hw'⟩ : ∃ w', w' = w.alloc (.cells (madeCells j.zero.cells (m'.toNat * j.τ.size)) j.t) := ⟨_, rfl⟩
      have r3 : w.grownBy w' none := by rw [hw']; exact World.grownBy_alloc w _ none
      have hmle : m.toNat ≤ m'.toNat := by omega
      have hcsz : (madeCells j.zero.cells (m'.toNat * j.τ.size)).size = m'.toNat * j.τ.size := size_madeCells _ _
      have hmk : m.toNat * j.τ.size ≤ m'.toNat * j.τ.size := Nat.mul_le_mul_right _ hmle
      have r2 : w'.ownsRow 0 j.t j.τ.size (.slice (some ⟨w.heap.size, 0, none⟩) m.toNat m'.toNat) m.toNat ((madeCells j.zero.cells (m'.toNat * j.τ.size)).toList.take (m.toNat * j.τ.size)) := by
       refine ⟨by rw [List.length_take, Array.length_toList, hcsz]; omega, .inr ⟨w.heap.size, m'.toNat, _, rfl, Nat.zero_le _, by rw [hw']; exact heap_alloc_new w _, hmle, by unfold maxLen; omega, hcsz, rfl⟩⟩
      have hfr : Fr w (fun _ => False) w' := ⟨r3.os, r3.tape, r3.output, r3.size, fun g hg _ => r3.block g hg (fun e => by cases e)⟩
      obtain ⟨z1, z2, z3⟩ := qd8 (P := P) (F := F) (w := w) (ρ := ρ) (vs := j.zero.cells.toList) hz (by simp [zeroC]) (fun q s u hs hu => by
       simp only [zeroC, List.getElem?_map] at hs
       rw [hu] at hs; injection hs with hs; subst hs; exact qir u)
      have hzz : j.zero.cells.toList.take j.τ.size = j.zero.cells.toList := List.take_of_length_le (by simp; omega)
      rw [hzz] at z2
      have hob : ObOk0 F w' (.arr j.t j.τ (List.replicate m.toNat z)) (.slice (some ⟨w.heap.size, 0, none⟩) m.toNat m'.toNat) := by
       refine ⟨_, by rw [List.length_replicate]; exact .of r2, fun q x hx => ?_⟩
       have hq : q < m.toNat := by have := (List.getElem?_eq_some_iff.1 hx).1; simpa using this
       obtain rfl : x = z := (List.mem_replicate.1 (List.mem_of_getElem? hx)).2
       have hrow : q * j.τ.size + j.τ.size ≤ m.toNat * j.τ.size := by
        have := Nat.mul_le_mul_right j.τ.size (show q + 1 ≤ m.toNat from hq)
        rwa [Nat.add_mul, Nat.one_mul] at this
       have he : ((((madeCells j.zero.cells (m'.toNat * j.τ.size)).toList.take (m.toNat * j.τ.size)).drop (q * j.τ.size)).take j.τ.size) = j.zero.cells.toList := by
        rw [List.drop_take, List.take_take, Nat.min_eq_left (by omega)]
        apply List.ext_getElem?
        intro k
        by_cases hk : k < j.τ.size
        ·have hkz : k < j.zero.cells.size := by omega
         have e2 : (q * j.τ.size + k) % j.τ.size = k := by rw [Nat.mul_comm, Nat.mul_add_mod, Nat.mod_eq_of_lt hk]
         rw [List.getElem?_take, if_pos hk, List.getElem?_drop]
         simp only [madeCells, Array.getElem?_toList, Array.getElem?_map, Array.getElem?_range]
         rw [if_pos (by omega)]
         simp only [Option.map_some, c6, c3, e2]
         simp [hkz]
        ·rw [List.getElem?_take, if_neg hk, List.getElem?_eq_none (by simp; omega)]
       rw [he]
       exact z2.mono (fun _ h => h) (fun g hF => hfr.blk _ (hr.mem.fb _ hF) id)
      refine ⟨_, _, F, w', .inl ?_, hr.newA hd' c1 hfr hob (fun g hg => by rw [qct hg]; exact Nat.le_refl _), fun _ h => h, fun _ h => .inl h⟩
      simp only [execOp, hxd, hyd, r1, Sem.run_bind, Sem.run_pure, Result.andThen_ok]
      rw [hw']
     ·cases h
   ·cases h
  ·cases h
 ·cases h
/-! ### append of zero values -/
def qcs (z : Array Value) (m : Nat) : List Value := (Builtin.zeroCells z m).toList
theorem qfY (z : Array Value) (m : Nat) : (qcs z m).length = m * z.size := by simp [qcs, size_zeroCells]
theorem qmD {z : Array Value} {m : Nat} {u : Value} (h : u ∈ qcs z m) : u ∈ z.toList := by
 obtain ⟨q, hq⟩ := List.getElem?_of_mem h
 have hlt := (List.getElem?_eq_some_iff.1 hq).1
 rw [qfY] at hlt
 have hz : 0 < z.size := by
  cases hs : z.size with
  | zero => rw [hs, Nat.mul_zero] at hlt; omega
  | succ k => omega
 have hmod := Nat.mod_lt q hz
 simp only [qcs, Builtin.zeroCells, Array.getElem?_toList, Array.getElem?_map, Array.getElem?_range] at hq
 rw [if_pos hlt] at hq
 simp only [Option.map_some, Option.some.injEq] at hq
 rw [getElem!_pos z (q % z.size) hmod] at hq
 rw [← hq]
 exact Array.getElem_mem_toList hmod
theorem qnI (z : Array Value) (m q : Nat) (h : q < m) : ((qcs z m).drop (q * z.size)).take z.size = z.toList := by
 have hrow : q * z.size + z.size ≤ m * z.size := by
  have := Nat.mul_le_mul_right z.size (show q + 1 ≤ m from h)
  rwa [Nat.add_mul, Nat.one_mul] at this
 apply List.ext_getElem?
 intro k
 by_cases hk : k < z.size
 ·have e2 : (q * z.size + k) % z.size = k := by rw [Nat.mul_comm, Nat.mul_add_mod, Nat.mod_eq_of_lt hk]
  rw [List.getElem?_take, if_pos hk, List.getElem?_drop]
  simp only [qcs, Builtin.zeroCells, Array.getElem?_toList, Array.getElem?_map, Array.getElem?_range]
  rw [if_pos (by omega)]
  simp only [Option.map_some, e2]
  simp [hk]
 ·rw [List.getElem?_take, if_neg hk, List.getElem?_eq_none (by simp; omega)]
theorem qiF {w : World} (t tn ty e : TypeId) (k bytes : Nat) (zv : Value) (kn : IntKind) (ht : P.underlying t = some (.slice e)) (htn : P.underlying tn = some (.int kn)) (hi0 : ∃ i, P.info? e = some i ∧ i.size = k ∧ i.bytes = bytes ∧ i.zero = some zv) (hzs : zv.cells.size = k) (hsz : 0 < k)
  (hone : ∀ u ∈ zv.cells.toList, u.oneCell' = true) (v : Value) (n : Nat) (xs : List Value) (hown : OwnR w e k v n xs) (kq : IntKind) (m : Nat) (hm : 0 < m) (h63 : n + m ≤ maxLen) (hbytes : (n + m) * bytes ≤ 140737488355328) :
  ∃ v' w', (Builtin.append_ #[t, tn] ty #[v, .int kq m]).run P w = .ok v' w' ∧ OwnR w' e k v' (n + m) (xs ++ qcs zv.cells m) ∧ w.grownBy w' (blkOf v) ∧
   (blkOf v' = blkOf v ∨ ∀ g, blkOf v' = some g → w.heap.size ≤ g) := by
 obtain ⟨i, hi, hsize, hby, hz⟩ := hi0
 subst hsize
 subst hby
 have hsmall : n + m ≤ 9223372036854775807 := by simp only [maxLen] at h63; omega
 have hxl : xs.length = n * i.size := hown.1
 have hlen : (xs ++ qcs zv.cells m).length = (n + m) * i.size := by rw [List.length_append, hxl, qfY, hzs, Nat.add_mul]
 have hmb : m * i.bytes ≤ 281474976710656 := by
  have : m * i.bytes ≤ (n + m) * i.bytes := Nat.mul_le_mul_right _ (by omega)
  omega
 have grow : ∀ (base : Option Addr) (cap : Nat), cap < n + m → (Builtin.firstCells i.size n (.slice base n cap)).run P w.drew = .ok xs.toArray w.drew →
   ∃ v' w', (Builtin.append_ #[t, tn] ty #[.slice base n cap, .int kq m]).run P w = .ok v' w' ∧ OwnR w' e i.size v' (n + m) (xs ++ qcs zv.cells m) ∧ (∀ row, w.grownBy w' row) ∧ ∀ g, blkOf v' = some g → w.heap.size ≤ g := by
  intro base cap hg hold
  have hr := Lib.run_append_grow_zeros (P := P) w t tn ty e i zv kq kn ht htn hi hz base n cap xs hold m hm hsz hg (by omega) hmb (growslice_fits (by omega) hbytes)
  have hge := grownCap_ge w (n + m) cap e
  have hcm : grownCap w (n + m) cap e ≤ maxLen := grownCap_le_maxLen w (n + m) cap e h63
  refine ⟨_, _, hr, .of ⟨hlen, .inr ⟨w.heap.size, _, _, rfl, Nat.zero_le _, heap_alloc_new w.drew _, hge, hcm, ?_, ?_⟩⟩, fun row => ⟨rfl, rfl, rfl, by simp, fun k hk _ => Below.heap_alloc w.drew _ k hk⟩, fun g hg => by rw [qct hg]; exact Nat.le_refl _⟩
  ·simp only [Array.size_append, List.size_toArray, size_zeroCells, hzs, hxl, ← Nat.add_mul]
   congr 1
   omega
  ·simp only [Array.toList_append, List.append_assoc]
   rw [show (Builtin.zeroCells zv.cells m).toList = qcs zv.cells m from rfl, ← List.append_assoc, ← hlen]
   exact List.take_left
 rcases hown.to with ⟨a0, rfl, hn, hx⟩ | ⟨ho, g, cap, hv⟩
 ·subst hn hx
  obtain ⟨v', w', q1, q2, q3, q4⟩ := grow a0 0 (by omega) (by cases a0 <;> simp [Builtin.firstCells, loadCells, loadCellsFrom])
  exact ⟨v', w', q1, q2, q3 _, .inr q4⟩
 ·subst hv
  obtain ⟨c, hc0, hcp⟩ : ∃ c, c = cap + 1 ∧ 0 < c := ⟨_, rfl, by omega⟩
  rw [← hc0] at ho hown ⊢
  clear hc0
  rcases ho.2 with ⟨h, _⟩ | ⟨g', cap', cur, hv, _, hg, hnc, hcm, hcs, htake⟩
  ·cases h
  ·injection hv with h1 h2 h3
   injection h1 with h1
   injection h1 with h1
   subst h1 h3
   by_cases hroom : n + m ≤ c
   ·have hw : IntKind.i64.wrap (m : Int) = m := by rw [IntKind.wrap_i64]; omega
    have h48i : ¬ (281474976710656 < (m : Int) * (i.bytes : Int)) := by
     rw [← Int.natCast_mul]
     omega
    have hneg : ¬ ((m : Int) < 0) := by omega
    have hns : ¬ (m * i.size = 0) := Nat.mul_ne_zero (by omega) (by omega)
    have hfit : n * i.size + (qcs zv.cells m).length ≤ cur.size := by rw [qfY, hzs, hcs, ← Nat.add_mul]; exact Nat.mul_le_mul_right _ hroom
    have hst := run_storeCells_at P g (n * i.size) e (qcs zv.cells m) 0 cur w hg (by simpa using hfit) (fun u hu => hone u (qmD hu))
    simp only [Nat.add_zero] at hst
    have hm0 : ¬ m = 0 := by omega
    have hr : (Builtin.append_ #[t, tn] ty #[.slice (some ⟨g, 0, none⟩) n c, .int kq m]).run P w = .ok (.slice (some ⟨g, 0, none⟩) (n + m) c) (w.setRow g (cur.toList.take (n * i.size) ++ qcs zv.cells m ++ cur.toList.drop (n * i.size + (qcs zv.cells m).length)).toArray) := by
     rw [show qcs zv.cells m = (Builtin.zeroCells zv.cells m).toList from rfl] at hst ⊢
     simp [Builtin.append_, run_underlying ht, run_underlying htn, sizeOf, typeInfo, zeroValue, hi, hz, asInt, asIntOf, hw, hm0, hneg, hns, h48i, hroom, Addr.add_lit, hst]
    refine ⟨_, _, hr, .of ⟨hlen, .inr ⟨g, c, _, rfl, Nat.zero_le _, setRow_heap w g cur _ e _ hg, hroom, hcm, ?_, ?_⟩⟩, ⟨rfl, rfl, rfl, by simp, fun k _ hk => setRow_other w g k _ (fun e => hk ?_)⟩, .inl ?_⟩
    ·simp only [List.size_toArray, List.length_append, List.length_take, List.length_drop, Array.length_toList]
     omega
    ·rw [htake, ← hlen]
     exact List.take_left
    ·rw [e]
     cases c with
     | zero => omega
     | succ c => rfl
    ·cases c with
     | zero => omega
     | succ c => rfl
   ·have holds : ∀ j u, xs[j]? = some u → w.cell? ((⟨g, 0, none⟩ : Addr).add j) = some u := ho.cells (g := g) rfl
    obtain ⟨v', w', q1, q2, q3, q4⟩ := grow (some ⟨g, 0, none⟩) c (by omega) (run_firstCells_some (P := P) w.drew i.size n ⟨g, 0, none⟩ n c xs hxl (by simpa using holds))
    exact ⟨v', w', q1, q2, q3 _, .inr q4⟩
def qg0 (Γ : List TI) (st : St) (N d : Nat) (t t2 : TypeId) (x y : Operand) : Option MR :=
 match look Γ t, look Γ t2 with
 | some i, some i2 => match i.desc, i2.desc with
  | .slice e, .int _ => match look Γ e with
   | some j => bif Nat.blt d N && !st.d (fresh st d 8 0) && Nat.beq j.size j.τ.size && Nat.blt 0 j.size && Nat.blt 0 j.bytes && Nat.beq j.zero.cells.size j.size && j.zero.cells.toList.all (fun u => u.oneCell') then
     match oldOf st e j.τ (st.ev x), (st.ev y).int?, asm j.τ (zeroC j.zero) with
     | some (l, ks, ws), some (_, m), some (z, []) => some ⟨decide (0 < m) && fits (l.length + m.toNat) j.bytes, qaa x ++ (qaa y ++ (.d (fresh st d 8 0) :: ks)), ws ++ [.d (fresh st d 8 0), .a (fresh st d 8 0) (some (.arr e j.τ (l ++ List.replicate m.toNat z))), .r d (.own (fresh st d 8 0))]⟩
     | _, _, _ => none
    else none
   | none => none
  | _, _ => none
 | _, _ => none
theorem qjG (hΓ : Tys P Γ) {d : Nat} {t t2 : TypeId} {x y : Operand} {r : MR} (h : qg0 Γ st N d t t2 x y = some r) (hg : r.g = true) :
  MOk P w0 M N F0 ops st (some d) (.call { callee := .builtin .append, args := #[x, y], argTypes := #[t, t2] }) rty r := by
 unfold qg0 at h
 split at h
 ·rename_i i i2 hl hl2
  obtain ⟨hi, rfl⟩ := qab hΓ hl
  obtain ⟨hi2, rfl⟩ := qab hΓ hl2
  split at h
  ·rename_i e kn hd hd2
   split at h
   ·rename_i j hl3
    obtain ⟨hj, rfl⟩ := qab hΓ hl3
    generalize hc : (Nat.blt d N && !st.d (fresh st d 8 0) && Nat.beq j.size j.τ.size && Nat.blt 0 j.size && Nat.blt 0 j.bytes && Nat.beq j.zero.cells.size j.size && j.zero.cells.toList.all (fun u => u.oneCell')) = c at h
    cases c with
    | false => cases h
    | true =>
     simp only [cond_true] at h
     simp only [Bool.and_eq_true, Bool.not_eq_true'] at hc
     obtain ⟨⟨⟨⟨⟨⟨c1, c2⟩, c3⟩, c4⟩, c5⟩, c6⟩, c7⟩ := hc
     rw [Nat.blt_eq] at c1 c4 c5
     have c3 := Nat.eq_of_beq_eq_true c3
     have c6 := Nat.eq_of_beq_eq_true c6
     have c7 := List.all_eq_true.1 c7
     split at h
     ·rename_i l ks ws k0 m z hold hm hz
      injection h with h; subst h
      simp only [Bool.and_eq_true, decide_eq_true_eq] at hg
      have hfit := Nat.le_of_ble_eq_true hg.2
      have hg1 := hg.1
      have hbig : l.length + m.toNat ≤ 140737488355328 := Nat.le_trans (Nat.le_mul_of_pos_right _ c5) hfit
      have hmm : ((m.toNat : Nat) : Int) = m := by omega
      intro pos af
      refine RT.stepW rfl fun st' hag F ρ a w hr => ?_
      have hd' : st'.d (fresh st d 8 0) = false := by rw [← c2]; exact (hag (.d _) (by simp)).symm
      have hu := hi.und
      rw [hd] at hu
      have hu2 := hi2.und
      rw [hd2] at hu2
      have hxd := hr.evx hag (fun _ h => mem_l h) (x := x)
      have hyd := (hr.evx hag (fun _ h => mem_r (mem_l h)) (x := y)).int hm
      have hinfo := hj.info
      have hos : (a.eval x = .slice none 0 0 ∧ l = [] ∧ ws = []) ∨ ∃ b A u, a.eval x = u ∧ ws = [.a b none] ∧ st'.a b = some A ∧ ρ b = some u ∧ A = .arr j.t j.τ l := by
       unfold oldOf at hold
       split at hold
       ·rename_i hx
        injection hold with hold; injection hold with e1 e2; injection e2 with e2 e3; subst e1 e2 e3
        rw [hx] at hxd
        generalize a.eval x = u at hxd ⊢
        cases hxd with
        | raw => exact .inl ⟨rfl, rfl, rfl⟩
       ·rename_i b hx
        split at hold
        ·rename_i A hA
         split at hold
         ·rename_i l' hl'
          cases hb : Nat.beq A.ty j.t with
          | false => rw [hb] at hold; cases hold
          | true =>
           rw [hb] at hold; injection hold with hold; injection hold with e1 e2; injection e2 with e2 e3; subst e1 e2 e3
           have hA' : st'.a b = some A := by rw [← hA]; exact (hag (.a b) (by simp)).symm
           rw [hx] at hxd
           generalize a.eval x = u at hxd ⊢
           cases hxd with
           | own hρ => exact .inr ⟨b, A, u, rfl, rfl, hA', hρ, by rw [Ob.as_spec hl', Nat.eq_of_beq_eq_true hb]⟩
         ·cases hold
        ·cases hold
       ·cases hold
      have hob0 : ∃ xs, OwnR w j.t j.size (a.eval x) l.length xs ∧ ∀ (q : Nat) (x : j.τ.den), l[q]? = some x → RdC F w j.τ x ((xs.drop (q * j.τ.size)).take j.τ.size) := by
       rcases hos with ⟨h1, h2, _⟩ | ⟨b, A, u, h1, _, h3, h4, h5⟩
       ·subst h2; rw [h1]; exact ⟨[], OwnR.nil w j.t j.size none, fun q x hx => by simp at hx⟩
       ·obtain ⟨u', g1, xs, g2, g3⟩ := hr.mem.arr b A h3 |> fun h => by rw [h5] at h; exact h
        rw [h4] at g1; injection g1 with g1; subst g1
        rw [h1, c3]; exact ⟨xs, g2, g3⟩
      obtain ⟨xs, ho1, ho2⟩ := hob0
      obtain ⟨v', w', k1, k2, k3, k4⟩ := qiF (P := P) (w := w) i.t i2.t rty j.t j.size j.bytes j.zero kn hu hu2 hinfo c6 c4 (fun u hu => c7 u hu) (a.eval x) l.length xs ho1 k0 m.toNat (by omega) (by simp only [maxLen]; omega) hfit
      rw [hmm] at k1
      have hFne : ∀ g, F g → ∀ row, blkOf (a.eval x) = row → some g ≠ row := by
       intro g hF row hrow e
       subst e
       rcases hos with ⟨h1, _⟩ | ⟨b, A, u, h1, _, h3, h4, _⟩
       ·rw [h1] at hrow; cases hrow
       ·rw [h1] at hrow
        exact hr.mem.own b u g (.inr (by rw [h3]; simp)) h4 hrow hF
      have hFw : ∀ g, F g → w'.heap[g]? = w.heap[g]? := fun g hF => k3.block g (hr.mem.fb g hF) (hFne g hF _ rfl)
      have hfr : Fr w (fun g => blkOf (a.eval x) = some g) w' := ⟨k3.os, k3.tape, k3.output, k3.size, fun g hg hn => k3.block g hg (fun e => hn e.symm)⟩
      obtain ⟨z1, z2, z3⟩ := qd8 (P := P) (F := F) (w := w) (ρ := ρ) (vs := j.zero.cells.toList) hz (by simp [zeroC]) (fun q s u hs hu => by
       simp only [zeroC, List.getElem?_map] at hs
       rw [hu] at hs; injection hs with hs; subst hs; exact qir u)
      have hzz : j.zero.cells.toList.take j.τ.size = j.zero.cells.toList := List.take_of_length_le (by simp; omega)
      rw [hzz] at z2
      have hob : ObOk0 F w' (.arr j.t j.τ (l ++ List.replicate m.toNat z)) v' := by
       refine ⟨xs ++ qcs j.zero.cells m.toNat, by rw [List.length_append, List.length_replicate, ← c3]; exact k2, fun q x hx => qcN (by rw [← c3]; exact ho1.1) (fun q x hx => (ho2 q x hx).mono (fun _ h => h) hFw) (fun q x hx => ?_) q x hx⟩
       have hq : q < m.toNat := by have := (List.getElem?_eq_some_iff.1 hx).1; simpa using this
       obtain rfl : x = z := (List.mem_replicate.1 (List.mem_of_getElem? hx)).2
       have := qnI j.zero.cells m.toNat q hq
       rw [c6, c3] at this
       rw [this]
       exact z2.mono (fun _ h => h) hFw
      have hexec : (execOp a.eval ⟨some d, .call { callee := .builtin .append, args := #[x, y], argTypes := #[i.t, i2.t] }, rty, pos, af, none⟩).run P w = .ok (.value v') w' := by
       simp only [execOp, resolve, invoke, builtin, Sem.run_bind, Sem.run_pure, Result.andThen_ok, List.map_toArray, List.map_cons, List.map_nil, hyd, k1]
      rcases hos with ⟨h1, h2, h3⟩ | ⟨b, A, u, h1, h2, h3, h4, h5⟩
      ·subst h3
       have k6 : Fr w (fun _ => False) w' := ⟨k3.os, k3.tape, k3.output, k3.size, fun g hg _ => k3.block g hg (by rw [h1]; intro e; cases e)⟩
       have k7 : ∀ g, blkOf v' = some g → w.heap.size ≤ g := by
        intro g hg
        rcases k4 with k4 | k4
        ·rw [k4, h1] at hg; cases hg
        ·exact k4 g hg
       exact ⟨v', _, F, w', .inl hexec, hr.newA hd' c1 k6 hob k7, fun _ h => h, fun _ h => .inl h⟩
      ·subst h2
       rw [h1] at hfr k4
       exact ⟨v', _, F, w', .inl hexec, hr.replA hd' c1 h3 h4 hfr hob k4, fun _ h => h, fun _ h => .inl h⟩
     ·cases h
   ·cases h
  ·cases h
 ·cases h
/-! ### A shorter one: x[:hi] of an own array -/
def qkG (Γ : List TI) (st : St) (N d : Nat) (t : TypeId) (x hi : Operand) : Option MR :=
 match st.ev x, (st.ev hi).int? with
 | .own b, some (_, m) => match st.a b with
  | some (.arr te e l) => bif Nat.blt d N && !st.d (fresh st d 8 0) && qbR Γ t e.size then
    some ⟨inR 0 m l.length, qaa x ++ (qaa hi ++ [.d (fresh st d 8 0), .a b]), [.a b none, .d (fresh st d 8 0), .a (fresh st d 8 0) (some (.arr te e (l.take m.toNat))), .r d (.own (fresh st d 8 0))]⟩
   else none
  | _ => none
 | _, _ => none
theorem qmE (hΓ : Tys P Γ) {d : Nat} {t : TypeId} {x hi : Operand} {r : MR} (h : qkG Γ st N d t x hi = some r) (hg : r.g = true) : MOk P w0 M N F0 ops st (some d) (.slice t x none (some hi) none) rty r := by
 unfold qkG at h
 split at h
 ·rename_i b k m hx hm
  split at h
  ·rename_i te e l hA
   generalize hc : (Nat.blt d N && !st.d (fresh st d 8 0) && qbR Γ t e.size) = c at h
   cases c with
   | false => cases h
   | true =>
    simp only [cond_true] at h
    simp only [Bool.and_eq_true, Bool.not_eq_true'] at hc
    obtain ⟨⟨c1, c2⟩, c3⟩ := hc
    rw [Nat.blt_eq] at c1
    injection h with h; subst h
    simp only [inR, Bool.and_eq_true, decide_eq_true_eq] at hg
    obtain ⟨⟨_, g1⟩, g2⟩ := hg
    obtain ⟨et, hu, hsz⟩ := qa3 hΓ c3
    intro pos af
    refine RT.stepW rfl fun st' hag F ρ a w hr => ?_
    have hd' : st'.d (fresh st d 8 0) = false := by rw [← c2]; exact (hag (.d _) (by simp)).symm
    have hA' : st'.a b = some (.arr te e l) := by rw [← hA]; exact (hag (.a b) (by simp)).symm
    have hxd := hr.evx hag (fun _ h => mem_l h) (x := x)
    have hmd := (hr.evx hag (fun _ h => mem_r (mem_l h)) (x := hi)).int hm
    rw [hx] at hxd
    generalize he : a.eval x = u at hxd
    cases hxd with
    | own hρ =>
     obtain ⟨u', q1, xs, ⟨q2, q3⟩, q4⟩ := hr.mem.arr b _ hA'
     rw [hρ] at q1; injection q1 with q1; subst q1
     have hl : (l.take m.toNat).length = m.toNat := by simp; omega
     have hel : ∀ (q : Nat) (z : e.den), (l.take m.toNat)[q]? = some z → RdC F w e z (((xs.take (m.toNat * e.size)).drop (q * e.size)).take e.size) := by
      intro q z hz
      have hq : q < m.toNat := by have := (List.getElem?_eq_some_iff.1 hz).1; omega
      rw [List.getElem?_take, if_pos hq] at hz
      have hrow : q * e.size + e.size ≤ m.toNat * e.size := by
       have := Nat.mul_le_mul_right e.size (show q + 1 ≤ m.toNat from hq)
       rwa [Nat.add_mul, Nat.one_mul] at this
      have : ((xs.take (m.toNat * e.size)).drop (q * e.size)).take e.size = (xs.drop (q * e.size)).take e.size := by
       rw [List.drop_take, List.take_take, Nat.min_eq_left (by omega)]
      rw [this]; exact q4 q z hz
     have hlx : (xs.take (m.toNat * e.size)).length = m.toNat * e.size := by
      have := Nat.mul_le_mul_right e.size (show m.toNat ≤ l.length by omega)
      simp; omega
     have hbounds : ∀ n c : Nat, m.toNat ≤ c → (Instr.sliceBounds true n c none (some (.int k m)) none).run P w = .ok (0, m.toNat, c) w := by
      intro n c hcc
      exact qdv (P := P) (w := w) (isS := true) (n := n) (c := c) (lo := none) (hi := some (k, m)) (Nat.zero_le _) (by simpa [bdHi] using hcc) (fun _ _ h => by cases h) (fun _ _ h => by injection h with h; injection h with _ h; subst h; exact g1)
     rcases q3 with ⟨ad, rfl, hn⟩ | ⟨g, cap, cur, rfl, q6, q7, q8, q9, q10⟩
     ·have hm0 : m = 0 := by omega
      subst hm0
      refine ⟨.slice ad 0 0, _, F, w, .inl ?_, hr.replA (A := .arr te e (l.take (0 : Int).toNat)) hd' c1 hA' hρ (Fr.refl w _) ⟨xs.take ((0 : Int).toNat * e.size), ⟨by rw [hlx, hl], .inl ⟨ad, rfl, hl⟩⟩, hel⟩ (.inl rfl), fun _ h => h, fun _ h => .inl h⟩
      have hb := hbounds 0 0 (Nat.le_refl _)
      simp only [execOp, he, hmd, Option.map_none, Option.map_some, Instr.sliceAt, Instr.slice, Sem.run_bind, run_underlying hu, Result.andThen_ok, hb, hsz, Sem.run_pure]
      simp
     ·refine ⟨.slice (some ⟨g, 0, none⟩) m.toNat (cap + 1), _, F, w, .inl ?_, hr.replA (A := .arr te e (l.take m.toNat)) hd' c1 hA' hρ (Fr.refl w _) ⟨xs.take (m.toNat * e.size), ⟨by rw [hlx, hl], .inr ⟨g, cap, cur, by rw [hl], q6, by omega, q8, q9, ?_⟩⟩, hel⟩ (.inl rfl), fun _ h => h, fun _ h => .inl h⟩
      ·have hb := hbounds l.length (cap + 1) (by omega)
       simp only [execOp, he, hmd, Option.map_none, Option.map_some, Instr.sliceAt, Instr.slice, Sem.run_bind, run_underlying hu, Result.andThen_ok, hb, hsz, Sem.run_pure]
       have hif : (if cap + 1 = 0 then some (⟨g, 0, none⟩ : Addr) else some ((⟨g, 0, none⟩ : Addr).add (0 * e.size))) = some ⟨g, 0, none⟩ := by rw [Nat.zero_mul, add_zero']; split <;> rfl
       rw [hif]; simp
      ·rw [hl, ← q10, List.take_take, Nat.min_eq_left (Nat.mul_le_mul_right _ (by omega))]
  ·cases h
 ·cases h
/-! ### x[lo:hi:hi] -/
def isZ : Operand → Bool
 | .const (.int _ n) => decide (n = 0)
 | _ => false
theorem qlG {x : Operand} (h : isZ x = true) : ∃ k, x = .const (.int k 0) := by
 unfold isZ at h
 split at h
 ·rename_i k n; exact ⟨k, by rw [of_decide_eq_true h]⟩
 ·cases h
def evCut (Γ : List TI) (ow : List Nat) (st : St) (N d : Nat) (t : TypeId) (x : Operand) (lo : Option Operand) (hi mx : Operand) : Option MR :=
 match st.ev x with
 | .v (.sl e) y => bif Nat.blt d N && qbR Γ t e.size then
   match bd st lo, (st.ev hi).int?, (st.ev mx).int? with
   | some l, some (k, h), some (_, m) => some ⟨decide (h = m) && cutG l (some (k, h)) (List.length (α := e.den) y), qaa x ++ (qfX lo ++ (qaa hi ++ qaa mx)), [.r d (bif memN ow d then .cut e (cutL (α := e.den) l (some (k, h)) y) else .v (.sl e) (cutL (α := e.den) l (some (k, h)) y))]⟩
   | _, _, _ => none
  else none
 | _ => none
def elTy (Γ : List TI) (t : TypeId) : Option TypeId :=
 match look Γ t with
 | some i => match i.desc with
  | .slice e => some e
  | _ => none
 | none => none
def qnJ (Γ : List TI) (st : St) (N d : Nat) (t : TypeId) (x hi mx : Operand) : Option MR :=
 match st.ev x, elTy Γ t with
 | .v (.sl e) _, some te => bif Nat.blt d N && !st.d (fresh st d 8 0) && qbR Γ t e.size && isZ hi && isZ mx then
   some ⟨true, qaa x ++ [.d (fresh st d 8 0)], [.d (fresh st d 8 0), .a (fresh st d 8 0) (some (.arr te e [])), .r d (.own (fresh st d 8 0))]⟩
  else none
 | _, _ => none
theorem qqo {F : Nat → Prop} {e : Ty} {x : List e.den} {ad : Addr} {cap L H : Nat} {w : World} (h1 : 0 < cap → F ad.block) (h2 : x.length ≤ cap) (h3 : cap ≤ maxLen)
  (h4 : ∀ (i : Nat) (y : e.den), x[i]? = some y → ∃ es, RdC F w e y es ∧ ∀ j v, es[j]? = some v → w.cell? (ad.add (i * e.size + j)) = some v) (hL : L ≤ H) (hH : H ≤ x.length) :
  RdC F w (.sl e) ((x.take H).drop L) [.slice (if H = L then some ad else some (ad.add (L * e.size))) (H - L) (H - L)] := by
 have := qpW (e := e) (x := x.take H) (ad := ad) (cap := H) (L := L) (H := H) (w := w) (F := F) (fun hc => h1 (by omega)) (by simp; omega) (by omega) (fun i z hz => h4 i z (by
  rw [List.getElem?_take] at hz
  split at hz
  ·exact hz
  ·cases hz)) hL (by simp; omega)
 rwa [List.take_take, Nat.min_self] at this
theorem qpf {α : Type} {x : List α} {L H : Nat} (hH : H ≤ x.length) : ((x.take H).drop L).length = H - L := by simp; omega
theorem qnK (hΓ : Tys P Γ) {d : Nat} {t : TypeId} {x hi mx : Operand} {r : MR} (h : qnJ Γ st N d t x hi mx = some r) : MOk P w0 M N F0 ops st (some d) (.slice t x none (some hi) (some mx)) rty r := by
 unfold qnJ at h
 split at h
 ·rename_i e y te hx hte
  generalize hc : (Nat.blt d N && !st.d (fresh st d 8 0) && qbR Γ t e.size && isZ hi && isZ mx) = c at h
  cases c with
  | false => cases h
  | true =>
   simp only [cond_true] at h
   simp only [Bool.and_eq_true, Bool.not_eq_true'] at hc
   obtain ⟨⟨⟨⟨c1, c2⟩, c3⟩, c4⟩, c5⟩ := hc
   rw [Nat.blt_eq] at c1
   injection h with h; subst h
   obtain ⟨et, hu, hsz⟩ := qa3 hΓ c3
   obtain ⟨k1, rfl⟩ := qlG c4
   obtain ⟨k2, rfl⟩ := qlG c5
   intro pos af
   refine RT.stepW rfl fun st' hag F ρ a w hr => ?_
   have hd' : st'.d (fresh st d 8 0) = false := by rw [← c2]; exact (hag (.d _) (by simp)).symm
   have hxd := hr.evx hag (fun _ h => mem_l h) (x := x)
   rw [hx] at hxd
   generalize he : a.eval x = u at hxd
   cases hxd with
   | v hv =>
    obtain ⟨cs, ⟨ad, cap, rfl, h2⟩, rfl⟩ := hv
    refine ⟨.slice ad 0 0, _, F, w, .inl ?_, hr.newA hd' c1 (Fr.refl w _) ⟨[], OwnR.nil w te e.size ad, fun q x hx => by simp at hx⟩ (fun g hg => by rw [qiq] at hg; cases hg), fun _ h => h, fun _ h => .inl h⟩
    have hb := qgT (P := P) (w := w) (n := List.length (α := e.den) y) (c := cap) (lo := none) (k := k1) (k' := k2) (h := 0) (by omega) (Nat.le_refl _) (Nat.zero_le _) (fun _ _ h => by cases h)
    simp only [valOf, Option.map_none] at hb
    have ek1 : a.eval (.const (.int k1 0)) = .int k1 0 := rfl
    have ek2 : a.eval (.const (.int k2 0)) = .int k2 0 := rfl
    simp only [execOp, he, ek1, ek2, mkV, Ty.agg, cond_false, List.headD_cons, Option.map_none, Option.map_some, Instr.sliceAt, Instr.slice, Sem.run_bind, run_underlying hu, Result.andThen_ok, hb, hsz, Sem.run_pure]
    simp [bdLo]
 ·cases h
theorem qpg (hΓ : Tys P Γ) {ow : List Nat} {d : Nat} {t : TypeId} {x hi mx : Operand} {lo : Option Operand} {r : MR} (h : evCut Γ ow st N d t x lo hi mx = some r) (hg : r.g = true) : MOk P w0 M N F0 ops st (some d) (.slice t x lo (some hi) (some mx)) rty r := by
 unfold evCut at h
 split at h
 ·rename_i e y hx
  generalize hc : (Nat.blt d N && qbR Γ t e.size) = c at h
  cases c with
  | false => cases h
  | true =>
   simp only [cond_true] at h
   simp only [Bool.and_eq_true] at hc
   obtain ⟨c1, c3⟩ := hc
   rw [Nat.blt_eq] at c1
   split at h
   ·rename_i l k h' k' m hl hh hm
    injection h with h; subst h
    simp only [Bool.and_eq_true, decide_eq_true_eq] at hg
    obtain ⟨hg1, hg2⟩ := hg
    subst hg1
    obtain ⟨et, hu, hsz⟩ := qa3 hΓ c3
    obtain ⟨b1, b2, b3, b4, b5⟩ := qiB (α := e.den) hg2
    have b6 := b4 k h' rfl
    simp only [bdHi] at b1 b2 b5
    intro pos af
    refine RT.stepW rfl fun st' hag F ρ a w hr => ?_
    have hxd := hr.evx hag (fun _ h => mem_l h) (x := x)
    have hld := qjz hr hag hl (fun _ h => mem_r (mem_l h))
    have hhd := (hr.evx hag (fun _ h => mem_r (mem_r (mem_l h))) (x := hi)).int hh
    have hmd := (hr.evx hag (fun _ h => mem_r (mem_r (mem_r h))) (x := mx)).int hm
    rw [hx] at hxd
    generalize he : a.eval x = u at hxd
    cases hxd with
    | v hv =>
     obtain ⟨cs, ⟨ad, cap, rfl, h2⟩, rfl⟩ := hv
     have hle : h'.toNat ≤ cap := by
      cases ad with
      | none => have hn : List.length (α := e.den) y = 0 := by simp only at h2; rw [h2]; rfl
                omega
      | some ad => exact Nat.le_trans b2 h2.2.1
     have hrd : RdC F w (.sl e) (cutL (α := e.den) l (some (k, h')) y) [.slice (if h'.toNat = bdLo l then ad else ad.map (·.add (bdLo l * e.size))) (h'.toNat - bdLo l) (h'.toNat - bdLo l)] := by
      rw [b5]
      cases ad with
      | none =>
       have hn : y = [] := h2
       subst hn
       have h0 : h'.toNat = 0 := by have := b2; simpa using this
       refine ⟨none, h'.toNat - bdLo l, ?_, ?_⟩
       ·simp [h0]
       ·simp
      | some ad =>
       obtain ⟨h3, h4, h5, h6⟩ := h2
       have := qqo h3 h4 h5 h6 b1 b2
       simp only [Option.map_some]
       exact this
     have hlen : List.length (α := e.den) (cutL (α := e.den) l (some (k, h')) y) = h'.toNat - bdLo l := by rw [b5]; exact qpf b2
     refine ⟨.slice (if h'.toNat = bdLo l then ad else ad.map (·.add (bdLo l * e.size))) (h'.toNat - bdLo l) (h'.toNat - bdLo l), ρ, F, w, .inl ?_, hr.setR c1 ?_, fun _ h => h, fun _ h => .inl h⟩
     ·have hb := qgT (P := P) (w := w) (n := List.length (α := e.den) y) (c := cap) (lo := l) (k := k) (k' := k') (h := h') b6 b1 hle b3
      simp only [execOp, he, hld, hhd, hmd, mkV, Ty.agg, cond_false, List.headD_cons, Option.map_some, Instr.sliceAt, Instr.slice, Sem.run_bind, run_underlying hu, Result.andThen_ok, hb, hsz, Sem.run_pure]
     ·cases memN ow d with
      | true =>
       rw [← hlen] at hrd ⊢
       exact .cut hrd
      | false => exact .v ⟨_, hrd, rfl⟩
   ·cases h
 ·cases h
/-! ### append to a slice that has no room -/
/-! ### append of a string's bytes -/
def qiG (l : List UInt8) : List Int := l.map fun b => (b.toNat : Int)
def qiH (l : List UInt8) : List (Ty.int .u8).den := qiG l
theorem qjH (l : List UInt8) : (qiH l).length = l.length := List.length_map (as := l) (fun b : UInt8 => (b.toNat : Int))
theorem qkH {w : World} (t tn ty e : TypeId) (ht : P.underlying t = some (.slice e)) (htn : P.underlying tn = some .string) (hi0 : ∃ i, P.info? e = some i ∧ i.size = 1 ∧ i.bytes = 1 ∧ i.zero = some (.int .u8 0))
  (v : Value) (n : Nat) (xs : List Value) (hown : OwnR w e 1 v n xs) (s : ByteArray) (hm : 0 < n + s.size) (hbytes : n + s.size ≤ 140737488355328) :
  ∃ v' w', (Builtin.append_ #[t, tn] ty #[v, .string s]).run P w = .ok v' w' ∧ OwnR w' e 1 v' (n + s.size) (xs ++ Lib.strCells s) ∧ w.grownBy w' (blkOf v) ∧
   (blkOf v' = blkOf v ∨ ∀ g, blkOf v' = some g → w.heap.size ≤ g) := by
 obtain ⟨i, hi, hsize, hby, hz⟩ := hi0
 have h63 : n + s.size ≤ maxLen := by simp only [maxLen]; omega
 have hsmall : n + s.size ≤ 9223372036854775807 := by simp only [maxLen] at h63; omega
 have hxl : xs.length = n := by have := hown.1; simpa using this
 have hlen : (xs ++ Lib.strCells s).length = (n + s.size) * 1 := by rw [List.length_append, hxl, Lib.strCells_length, Nat.mul_one]
 have grow : ∀ (base : Option Addr) (cap : Nat), cap < n + s.size →
   (Builtin.append_ #[t, tn] ty #[.slice base n cap, .string s]).run P w = .ok (.slice (some ⟨w.heap.size, 0, none⟩) (n + s.size) (grownCap w (n + s.size) cap e)) (w.drew.alloc (.cells (xs.toArray ++ (Lib.strCells s).toArray ++ Builtin.zeroCells (Value.int .u8 0).cells (grownCap w (n + s.size) cap e - (n + s.size))) e)) →
   ∃ v' w', (Builtin.append_ #[t, tn] ty #[.slice base n cap, .string s]).run P w = .ok v' w' ∧ OwnR w' e 1 v' (n + s.size) (xs ++ Lib.strCells s) ∧ (∀ row, w.grownBy w' row) ∧ ∀ g, blkOf v' = some g → w.heap.size ≤ g := by
  intro base cap hg hr
  have hge := grownCap_ge w (n + s.size) cap e
  have hcm : grownCap w (n + s.size) cap e ≤ maxLen := grownCap_le_maxLen w (n + s.size) cap e h63
  refine ⟨_, _, hr, .of ⟨hlen, .inr ⟨w.heap.size, _, _, rfl, Nat.zero_le _, heap_alloc_new w.drew _, hge, hcm, ?_, ?_⟩⟩, fun row => ⟨rfl, rfl, rfl, by simp, fun k hk _ => Below.heap_alloc w.drew _ k hk⟩, fun g hg => by rw [qct hg]; exact Nat.le_refl _⟩
  ·have hz1 : (Value.int IntKind.u8 0).cells.size = 1 := rfl
   simp only [Array.size_append, List.size_toArray, size_zeroCells, hz1, hxl, Lib.strCells_length]
   omega
  ·simp only [Array.toList_append, List.append_assoc]
   rw [← List.append_assoc, ← hlen]
   exact List.take_left
 rcases hown.to with ⟨a0, rfl, hn, hx⟩ | ⟨ho, g, cap, hv⟩
 ·subst hn hx
  obtain ⟨v', w', q1, q2, q3, q4⟩ := grow a0 0 (by omega) (by
   cases a0 with
   | none =>
    have hr := run_append_nil_string (P := P) w t tn ty e i (.int .u8 0) ht htn hi hz s (by omega) (by omega) (by rw [hby]; omega)
    have e1 : (s.data.map fun b => Value.int .u8 b.toNat) = (Lib.strCells s).toArray := by
     apply Array.ext'
     simp [Lib.strCells]
    rw [e1] at hr
    simp only [Nat.zero_add, Array.empty_append]
    exact hr
   | some b => exact Lib.run_append_grow_string (P := P) w t tn ty e i (.int .u8 0) ht htn hi hz b 0 0 [] (by simp) (fun j v h => by simp at h) s (by omega) (by omega) (by rw [hby]; exact growslice_fits (by omega) (by omega)))
  exact ⟨v', w', q1, q2, q3 _, .inr q4⟩
 ·subst hv
  obtain ⟨c, hc0, hcp⟩ : ∃ c, c = cap + 1 ∧ 0 < c := ⟨_, rfl, by omega⟩
  rw [← hc0] at ho hown ⊢
  clear hc0
  rcases ho.2 with ⟨h, _⟩ | ⟨g', cap', cur, hv, _, hg, hnc, hcm, hcs, htake⟩
  ·cases h
  ·injection hv with h1 h2 h3
   injection h1 with h1
   injection h1 with h1
   subst h1 h3
   by_cases hroom : n + s.size ≤ c
   ·have hcs' : cur.size = c := by simpa using hcs
    have hr := Lib.run_append_room_string (P := P) w t tn ty e i ht htn hi hsize g n c cur hg s hroom (by omega)
    refine ⟨_, _, hr, .of ⟨hlen, .inr ⟨g, c, _, rfl, Nat.zero_le _, setRow_heap w g cur _ e _ hg, hroom, hcm, ?_, ?_⟩⟩, ⟨rfl, rfl, rfl, by simp, fun k _ hk => setRow_other w g k _ (fun e => hk ?_)⟩, .inl ?_⟩
    ·simp only [List.size_toArray, List.length_append, List.length_take, List.length_drop, Array.length_toList, Lib.strCells_length]
     omega
    ·have ht' : cur.toList.take n = xs := by simpa using htake
     rw [ht', ← hlen]
     exact List.take_left
    ·rw [e]
     cases c with
     | zero => omega
     | succ c => rfl
    ·cases c with
     | zero => omega
     | succ c => rfl
   ·have holds : ∀ j u, xs[j]? = some u → w.cell? ((⟨g, 0, none⟩ : Addr).add j) = some u := ho.cells (g := g) rfl
    obtain ⟨v', w', q1, q2, q3, q4⟩ := grow (some ⟨g, 0, none⟩) c (by omega) (Lib.run_append_grow_string (P := P) w t tn ty e i (.int .u8 0) ht htn hi hz ⟨g, 0, none⟩ n c xs (by rw [hsize]; simpa using hxl) holds s (by omega) (by omega) (by rw [hby]; exact growslice_fits (by omega) (by omega)))
    exact ⟨v', w', q1, q2, q3 _, .inr q4⟩
def qiI (j : TI) : Bool := match j.zero with
 | .int .u8 (.ofNat 0) => Nat.beq j.size 1 && Nat.beq j.bytes 1
 | _ => false
theorem qmF {j : TI} (h : qiI j = true) : j.zero = .int .u8 0 ∧ j.size = 1 ∧ j.bytes = 1 := by
 unfold qiI at h
 split at h
 ·rename_i hz
  rw [Bool.and_eq_true] at h
  exact ⟨hz, Nat.eq_of_beq_eq_true h.1, Nat.eq_of_beq_eq_true h.2⟩
 ·cases h
def qpX (Γ : List TI) (t : TypeId) : Bool := match look Γ t with
 | some i => match i.desc with
  | .string => true
  | _ => false
 | none => false
def qg1 (Γ : List TI) (st : St) (N d : Nat) (t t2 : TypeId) (x y : Operand) : Option MR :=
 match look Γ t, look Γ t2 with
 | some i, some i2 => match i.desc, i2.desc with
  | .slice e, .string => match look Γ e with
   | some j => bif Nat.blt d N && !st.d (fresh st d 8 0) && qiI j then
     match oldOf st e (.int .u8) (st.ev x), (st.ev y).as .str with
     | some (l, ks, ws), some s => some ⟨Nat.blt 0 (l.length + s.length) && fits (l.length + s.length) 1, qaa x ++ (qaa y ++ (.d (fresh st d 8 0) :: ks)), ws ++ [.d (fresh st d 8 0), .a (fresh st d 8 0) (some (.arr e (.int .u8) (l ++ qiH s))), .r d (.own (fresh st d 8 0))]⟩
     | _, _ => none
    else none
   | none => none
  | _, _ => none
 | _, _ => none
theorem qjI (hΓ : Tys P Γ) {d : Nat} {t t2 : TypeId} {x y : Operand} {r : MR} (h : qg1 Γ st N d t t2 x y = some r) (hg : r.g = true) :
  MOk P w0 M N F0 ops st (some d) (.call { callee := .builtin .append, args := #[x, y], argTypes := #[t, t2] }) rty r := by
 unfold qg1 at h
 split at h
 ·rename_i i i2 hl hl2
  obtain ⟨hi, rfl⟩ := qab hΓ hl
  obtain ⟨hi2, rfl⟩ := qab hΓ hl2
  split at h
  ·rename_i e hd hd2
   split at h
   ·rename_i j hl3
    obtain ⟨hj, rfl⟩ := qab hΓ hl3
    generalize hc : (Nat.blt d N && !st.d (fresh st d 8 0) && qiI j) = c at h
    cases c with
    | false => cases h
    | true =>
     simp only [cond_true] at h
     simp only [Bool.and_eq_true, Bool.not_eq_true'] at hc
     obtain ⟨⟨c1, c2⟩, c3⟩ := hc
     rw [Nat.blt_eq] at c1
     obtain ⟨z1, z2, z3⟩ := qmF c3
     split at h
     ·rename_i l ks ws s0 hold hs
      obtain ⟨s, hs2⟩ : ∃ s : List UInt8, s = s0 := ⟨s0, rfl⟩
      subst hs2
      injection h with h; subst h
      simp only [Bool.and_eq_true, Nat.blt_eq] at hg
      have hfit := Nat.le_of_ble_eq_true hg.2
      have hg1 := hg.1
      have hbig : l.length + s.length ≤ 140737488355328 := by omega
      intro pos af
      refine RT.stepW rfl fun st' hag F ρ a w hr => ?_
      have hd' : st'.d (fresh st d 8 0) = false := by rw [← c2]; exact (hag (.d _) (by simp)).symm
      have hu := hi.und
      rw [hd] at hu
      have hu2 := hi2.und
      rw [hd2] at hu2
      have hxd := hr.evx hag (fun _ h => mem_l h) (x := x)
      obtain ⟨cs, hcs, hyd⟩ := qgf hs (hr.evx hag (fun _ h => mem_r (mem_l h)) (x := y))
      have hcs' : cs = [.string ⟨⟨s⟩⟩] := hcs
      subst hcs'
      have hyd' : a.eval y = .string ⟨⟨s⟩⟩ := hyd
      have hinfo := hj.info
      rw [z1, z2, z3] at hinfo
      have hos : (a.eval x = .slice none 0 0 ∧ l = [] ∧ ws = []) ∨ ∃ b A u, a.eval x = u ∧ ws = [.a b none] ∧ st'.a b = some A ∧ ρ b = some u ∧ A = .arr j.t (.int .u8) l := by
       unfold oldOf at hold
       split at hold
       ·rename_i hx
        injection hold with hold; injection hold with e1 e2; injection e2 with e2 e3; subst e1 e2 e3
        rw [hx] at hxd
        generalize a.eval x = u at hxd ⊢
        cases hxd with
        | raw => exact .inl ⟨rfl, rfl, rfl⟩
       ·rename_i b hx
        split at hold
        ·rename_i A hA
         split at hold
         ·rename_i l' hl'
          cases hb : Nat.beq A.ty j.t with
          | false => rw [hb] at hold; cases hold
          | true =>
           rw [hb] at hold; injection hold with hold; injection hold with e1 e2; injection e2 with e2 e3; subst e1 e2 e3
           have hA' : st'.a b = some A := by rw [← hA]; exact (hag (.a b) (by simp)).symm
           rw [hx] at hxd
           generalize a.eval x = u at hxd ⊢
           cases hxd with
           | own hρ => exact .inr ⟨b, A, u, rfl, rfl, hA', hρ, by rw [Ob.as_spec hl', Nat.eq_of_beq_eq_true hb]⟩
         ·cases hold
        ·cases hold
       ·cases hold
      have hob0 : ∃ xs, OwnR w j.t 1 (a.eval x) l.length xs ∧ ∀ (q : Nat) (x : (Ty.int .u8).den), l[q]? = some x → RdC F w (.int .u8) x ((xs.drop (q * 1)).take 1) := by
       rcases hos with ⟨h1, h2, _⟩ | ⟨b, A, u, h1, _, h3, h4, h5⟩
       ·subst h2; rw [h1]; exact ⟨[], OwnR.nil w j.t 1 none, fun q x hx => by simp at hx⟩
       ·obtain ⟨u', g1, xs, g2, g3⟩ := hr.mem.arr b A h3 |> fun h => by rw [h5] at h; exact h
        rw [h4] at g1; injection g1 with g1; subst g1
        rw [h1]; exact ⟨xs, g2, g3⟩
      obtain ⟨xs, ho1, ho2⟩ := hob0
      obtain ⟨v', w', k1, k2, k3, k4⟩ := qkH (P := P) (w := w) i.t i2.t rty j.t hu hu2 hinfo (a.eval x) l.length xs ho1 ⟨⟨s⟩⟩ hg1 hbig
      have hFne : ∀ g, F g → ∀ row, blkOf (a.eval x) = row → some g ≠ row := by
       intro g hF row hrow e
       subst e
       rcases hos with ⟨h1, _⟩ | ⟨b, A, u, h1, _, h3, h4, _⟩
       ·rw [h1] at hrow; cases hrow
       ·rw [h1] at hrow
        exact hr.mem.own b u g (.inr (by rw [h3]; simp)) h4 hrow hF
      have hFw : ∀ g, F g → w'.heap[g]? = w.heap[g]? := fun g hF => k3.block g (hr.mem.fb g hF) (hFne g hF _ rfl)
      have hfr : Fr w (fun g => blkOf (a.eval x) = some g) w' := ⟨k3.os, k3.tape, k3.output, k3.size, fun g hg hn => k3.block g hg (fun e => hn e.symm)⟩
      have hob : ObOk0 F w' (.arr j.t (.int .u8) (l ++ qiH s)) v' := by
       refine ⟨xs ++ Lib.strCells ⟨⟨s⟩⟩, by have e := qjH s; rw [List.length_append, e]; exact k2, fun q x hx => qcN (e := .int .u8) ho1.1 (fun q x hx => (ho2 q x hx).mono (fun _ h => h) hFw) (fun q x hx => ?_) q x hx⟩
       have hx2 : (s.map fun b => (b.toNat : Int))[q]? = some x := hx
       have hx3 : (s[q]?).map (fun b : UInt8 => (b.toNat : Int)) = some x := (List.getElem?_map (f := fun b : UInt8 => (b.toNat : Int)) (l := s) (i := q)).symm.trans hx2
       obtain ⟨b, hb, rfl⟩ := Option.map_eq_some_iff.1 hx3
       show ((Lib.strCells ⟨⟨s⟩⟩).drop (q * 1)).take 1 = [.int .u8 (b.toNat : Int)]
       rw [Nat.mul_one]
       have hq := (List.getElem?_eq_some_iff.1 hb).1
       have hb2 := (List.getElem?_eq_some_iff.1 hb).2
       have hql : q < (Lib.strCells ⟨⟨s⟩⟩).length := by rw [Lib.strCells_length]; exact hq
       rw [List.drop_eq_getElem_cons hql]
       simp [Lib.strCells, hb2]
      have hexec : (execOp a.eval ⟨some d, .call { callee := .builtin .append, args := #[x, y], argTypes := #[i.t, i2.t] }, rty, pos, af, none⟩).run P w = .ok (.value v') w' := by
       simp only [execOp, resolve, invoke, builtin, Sem.run_bind, Sem.run_pure, Result.andThen_ok, List.map_toArray, List.map_cons, List.map_nil, hyd', k1]
      rcases hos with ⟨h1, h2, h3⟩ | ⟨b, A, u, h1, h2, h3, h4, h5⟩
      ·subst h3
       have k6 : Fr w (fun _ => False) w' := ⟨k3.os, k3.tape, k3.output, k3.size, fun g hg _ => k3.block g hg (by rw [h1]; intro e; cases e)⟩
       have k7 : ∀ g, blkOf v' = some g → w.heap.size ≤ g := by
        intro g hg
        rcases k4 with k4 | k4
        ·rw [k4, h1] at hg; cases hg
        ·exact k4 g hg
       exact ⟨v', _, F, w', .inl hexec, hr.newA hd' c1 k6 hob k7, fun _ h => h, fun _ h => .inl h⟩
      ·subst h2
       rw [h1] at hfr k4
       exact ⟨v', _, F, w', .inl hexec, hr.replA hd' c1 h3 h4 hfr hob k4, fun _ h => h, fun _ h => .inl h⟩
     ·cases h
   ·cases h
  ·cases h
 ·cases h
/-! ### The bytes of an array as a string, without a copy: the array is gone -/
def qaJ (l : List Int) : List UInt8 := l.map fun n => UInt8.ofNat n.toNat
theorem qkI (l : List Int) : (qaJ l).length = l.length := by simp [qaJ]
theorem Rel'.loseA {b0 : Nat} {A0 : Ob} {v0 : Value} {w' : World} (h : Rel' P w0 M N F ρ st a w) (hA0 : st.a b0 = some A0) (hρ0 : ρ b0 = some v0)
  (hf : Fr w (fun g => blkOf v0 = some g) w') : Rel' P w0 M N F ρ (st.put (.a b0 none)) a w' := by
 have hp0 : st.present b0 := .inr (by rw [hA0]; simp)
 have hv0 : st.v b0 = none := by
  cases hx : st.v b0 with
  | none => rfl
  | some x =>
   exfalso
   obtain ⟨g, arr, h1, h1b, _⟩ := h.mem.var b0 x.1 x.2 hx
   obtain ⟨u', h2, h3⟩ := h.mem.arr b0 A0 hA0
   rw [h1] at h2; injection h2 with h2; subst h2
   exact h3.novar rfl h1b
 have hpr : ∀ b', (st.put (.a b0 none)).present b' → b' ≠ b0 ∧ st.present b' := by
  intro b' hp
  by_cases e : b' = b0
  ·subst e
   exfalso
   rcases hp with hp | hp
   ·exact hp hv0
   ·refine hp ?_
    show (bif Nat.beq b' b' then none else st.a b') = none
    simp
  ·refine ⟨e, ?_⟩
   rcases hp with hp | hp
   ·exact .inl hp
   ·refine .inr ?_
    have hp' : (bif Nat.beq b' b0 then none else st.a b') ≠ none := hp
    rw [bq e] at hp'; exact hp'
 refine (h.dropA b0).move hf (fun b' g hk hg => h.mem.kap.k2 b' b0 v0 g hk hp0 hρ0 hg) (fun b' v g hp hv hg hx => ?_) (fun g hF hx => ?_) (fun _ h => h) (fun _ h => .inl h) (fun g hF => Nat.lt_of_lt_of_le (h.mem.fb g hF) hf.size) (fun g hx hlt => ?_)
 ·obtain ⟨h1, h2⟩ := hpr b' hp
  exact h1 (h.mem.sep b' b0 v v0 g h2 hp0 hv hρ0 hg hx)
 ·exact h.mem.own b0 v0 g hp0 hρ0 hx hF
 ·rcases h.lo b0 v0 g hp0 hρ0 hx with h1 | h1
  ·exact h1
  ·exact absurd hlt (Nat.not_lt.2 h1)
def qiJ : Option Ob → Option (TypeId × List Int)
 | some (.arr ty (.int .u8) l) => some (ty, l)
 | _ => none
theorem qif {A : Option Ob} {ty : TypeId} {l : List Int} (h : qiJ A = some (ty, l)) : A = some (.arr ty (.int .u8) l) := by
 unfold qiJ at h
 split at h
 ·injection h with h; injection h with h1 h2; subst h1 h2; rfl
 ·cases h
theorem qpY {b : Nat} {ty : TypeId} {l : List Int} {u : Value} (h : MemOk P F w ρ st) (hA : st.a b = some (.arr ty (.int .u8) l)) (hρ : ρ b = some u) (h0 : 0 < l.length) :
  ∃ (g cap : Nat) (cur : Array Value), u = .slice (some ⟨g, 0, none⟩) l.length (cap + 1) ∧ w.heap[g]? = some (.cells cur ty (0, 0)) ∧ l.length ≤ cap + 1 ∧ cap + 1 ≤ maxLen ∧ cur.size = cap + 1 ∧
   ∀ (j : Nat) (x : Int), l[j]? = some x → w.cell? ((⟨g, 0, none⟩ : Addr).add j) = some (.int .u8 x) := by
 obtain ⟨u', q1, xs, hown, q4⟩ := h.arr b _ hA
 rw [hρ] at q1; injection q1 with q1; subst q1
 obtain ⟨q2, q3⟩ := hown
 rcases q3 with ⟨ad, rfl, hn⟩ | ⟨g, cap, cur, rfl, q6, q7, q8, q9, q10⟩
 ·have hn' : l.length = 0 := hn
  omega
 ·refine ⟨g, cap, cur, rfl, q6, q7, q8, ?_, fun j x hj => ?_⟩
  ·have : cur.size = (cap + 1) * 1 := q9
   omega
  ·have h5 : (xs.drop (j * 1)).take 1 = [.int .u8 x] := q4 j x hj
   rw [Nat.mul_one] at h5
   have h6 : ((xs.drop j).take 1)[0]? = some (.int .u8 x) := by rw [h5]; rfl
   rw [List.getElem?_take, if_pos (by omega), List.getElem?_drop, Nat.add_zero] at h6
   have hown : OwnR w ty (Ty.int .u8).size (.slice (some ⟨g, 0, none⟩) l.length (cap + 1)) l.length xs := ⟨q2, .inr ⟨g, cap, cur, rfl, q6, q7, q8, q9, q10⟩⟩
   exact hown.cells rfl j _ h6
def qkJ (st : St) (N d : Nat) (x : Operand) : Option MR :=
 match st.ev x with
 | .own b => match qiJ (st.a b) with
  | some (_, l) => bif Nat.blt d N then some ⟨Nat.blt 0 l.length, qaa x ++ [.a b], [.r d (.ael b 1 0 0)]⟩ else none
  | none => none
 | .raw (.slice none 0 0) => bif Nat.blt d N then some ⟨true, qaa x, [.r d (.raw (.pointer none))]⟩ else none
 | _ => none
theorem qmG {d : Nat} {t : TypeId} {x : Operand} {r : MR} (h : qkJ st N d x = some r) (hg : r.g = true) :
  MOk P w0 M N F0 ops st (some d) (.call { callee := .builtin .unsafeSliceData, args := #[x], argTypes := #[t] }) rty r := by
 unfold qkJ at h
 split at h
 ·rename_i b hx
  split at h
  ·rename_i ty l hA
   cases hc : Nat.blt d N with
   | false => rw [hc] at h; cases h
   | true =>
    rw [hc] at h; simp only [cond_true] at h
    injection h with h; subst h
    simp only [Nat.blt_eq] at hg hc
    intro pos af
    refine RT.stepW rfl fun st' hag F ρ a w hr => ?_
    have hA' : st'.a b = some (.arr ty (.int .u8) l) := by rw [← qif hA]; exact (hag (.a b) (by simp)).symm
    have hxd := hr.evx hag (fun _ h => mem_l h) (x := x)
    rw [hx] at hxd
    generalize he : a.eval x = u at hxd
    cases hxd with
    | own hρ =>
     obtain ⟨g, cap, cur, rfl, q6, q7, q8, q9, q10⟩ := qpY hr.mem hA' hρ hg
     refine ⟨.pointer (some ⟨g, 0, none⟩), _, F, w, .inl ?_, hr.setR hc (.ael (k := 1) (i := 0) (o := 0) hρ hg), fun _ h => h, fun _ h => .inl h⟩
     have := Lib.run_unsafeSliceData_row (P := P) w #[t] rty ⟨g, 0, none⟩ l.length (cap + 1) (by omega)
     simp only [execOp, resolve, invoke, builtin, Sem.run_bind, Sem.run_pure, Result.andThen_ok, List.map_toArray, List.map_cons, List.map_nil, he]
     rw [this]; rfl
  ·cases h
 ·rename_i hx
  cases hc : Nat.blt d N with
  | false => rw [hc] at h; cases h
  | true =>
   rw [hc] at h; injection h with h; subst h
   rw [Nat.blt_eq] at hc
   intro pos af
   refine RT.stepW rfl fun st' hag F ρ a w hr => ?_
   have hxd := hr.evx hag (fun _ h => h) (x := x)
   rw [hx] at hxd
   generalize he : a.eval x = u at hxd
   cases hxd with
   | raw =>
    refine ⟨.pointer none, _, F, w, .inl ?_, hr.setR hc (.raw _), fun _ h => h, fun _ h => .inl h⟩
    have := Lib.run_unsafeSliceData_nil (P := P) w #[t] rty 0 0
    simp only [execOp, resolve, invoke, builtin, Sem.run_bind, Sem.run_pure, Result.andThen_ok, List.map_toArray, List.map_cons, List.map_nil, he]
    rw [this]; rfl
 ·cases h
def ptrTo (Γ : List TI) (pt : TypeId) : Option TypeId := match look Γ pt with
 | some i => match i.desc with
  | .pointer e => match look Γ e with
   | some j => bif Nat.beq j.size 1 then some e else none
   | none => none
  | _ => none
 | none => none
theorem qlH (hΓ : Tys P Γ) {pt e : TypeId} (h : ptrTo Γ pt = some e) : P.underlying pt = some (.pointer e) ∧ P.cellsOf e = 1 := by
 unfold ptrTo at h
 split at h
 ·rename_i i hl
  obtain ⟨hi, rfl⟩ := qab hΓ hl
  split at h
  ·rename_i e' hd
   split at h
   ·rename_i j hl2
    obtain ⟨hj, rfl⟩ := qab hΓ hl2
    cases hb : Nat.beq j.size 1 with
    | false => rw [hb] at h; cases h
    | true =>
     rw [hb] at h; injection h with h; subst h
     have hu := hi.und
     rw [hd] at hu
     obtain ⟨inf, i1, i2, _⟩ := hj.info
     exact ⟨hu, by simp [Program.cellsOf, i1, i2, Nat.eq_of_beq_eq_true hb]⟩
   ·cases h
  ·cases h
 ·cases h
def qnL (Γ : List TI) (st : St) (N d : Nat) (pt : TypeId) (x y : Operand) : Option MR :=
 match st.ev x, (st.ev y).int?, ptrTo Γ pt with
 | .raw (.pointer none), some (.i64, m), some _ => bif Nat.blt d N then some ⟨decide (m = 0), qaa x ++ qaa y, [.r d (.v .str [])]⟩ else none
 | .ael b 1 0 0, some (.i64, m), some e => match qiJ (st.a b) with
  | some (ty, l) => bif Nat.blt d N && Nat.beq ty e then some ⟨Nat.blt 0 l.length && (decide (m = l.length) && decide (qiG (qaJ l) = l)), qaa x ++ (qaa y ++ [.a b]), [.a b none, .r d (.v .str (qaJ l))]⟩ else none
  | none => none
 | _, _, _ => none
theorem qnM (hΓ : Tys P Γ) {d : Nat} {pt it : TypeId} {x y : Operand} {r : MR} (h : qnL Γ st N d pt x y = some r) (hg : r.g = true) :
  MOk P w0 M N F0 ops st (some d) (.call { callee := .builtin .unsafeString, args := #[x, y], argTypes := #[pt, it] }) rty r := by
 unfold qnL at h
 split at h
 ·rename_i m e hx hm hp
  obtain ⟨p1, p2⟩ := qlH hΓ hp
  cases hc : Nat.blt d N with
  | false => rw [hc] at h; cases h
  | true =>
   rw [hc] at h; injection h with h; subst h
   rw [Nat.blt_eq] at hc
   have hg := of_decide_eq_true hg
   subst hg
   intro pos af
   refine RT.stepW rfl fun st' hag F ρ a w hr => ?_
   have hxd := hr.evx hag (fun _ h => mem_l h) (x := x)
   have hmd := (hr.evx hag (fun _ h => mem_r h) (x := y)).int hm
   rw [hx] at hxd
   generalize he : a.eval x = u at hxd
   cases hxd with
   | raw =>
    refine ⟨.string ⟨⟨[]⟩⟩, _, F, w, .inl ?_, hr.setR hc (.v ⟨[.string ⟨⟨[]⟩⟩], rfl, rfl⟩), fun _ h => h, fun _ h => .inl h⟩
    have := Lib.run_unsafeString_none (P := P) w pt it rty none
    simp only [execOp, resolve, invoke, builtin, Sem.run_bind, Sem.run_pure, Result.andThen_ok, List.map_toArray, List.map_cons, List.map_nil, he, hmd]
    rw [this]; rfl
 ·rename_i b m e hx hm hp
  obtain ⟨p1, p2⟩ := qlH hΓ hp
  split at h
  ·rename_i ty l hA
   generalize hc : (Nat.blt d N && Nat.beq ty e) = c at h
   cases c with
   | false => cases h
   | true =>
    simp only [cond_true] at h
    injection h with h; subst h
    simp only [Bool.and_eq_true, Nat.blt_eq, decide_eq_true_eq] at hg hc
    obtain ⟨g0, gm, gl⟩ := hg
    obtain ⟨c1, c2⟩ := hc
    have c2 := Nat.eq_of_beq_eq_true c2
    subst c2
    intro pos af
    refine RT.stepW rfl fun st' hag F ρ a w hr => ?_
    have hA' : st'.a b = some (.arr ty (.int .u8) l) := by rw [← qif hA]; exact (hag (.a b) (by simp)).symm
    have hxd := hr.evx hag (fun _ h => mem_l h) (x := x)
    have hmd := (hr.evx hag (fun _ h => mem_r (mem_l h)) (x := y)).int hm
    rw [hx] at hxd
    generalize he : a.eval x = u at hxd
    cases hxd with
    | ael hρ hi =>
     rename_i g n cap
     obtain ⟨g', cap', cur, hh, q6, q7, q8, q9, q10⟩ := qpY hr.mem hA' hρ g0
     injection hh with h1 h2 h3; injection h1 with h1; injection h1 with h1; subst h1 h2 h3
     have hf : Fr w (fun k => blkOf (.slice (some ⟨g, 0, none⟩) l.length (cap' + 1)) = some k) (w.freeze ⟨g, 0, none⟩ (qaJ l).length) := by
      unfold World.freeze
      split
      ·exact Fr.refl _ _
      ·refine ⟨rfl, rfl, rfl, by simp, fun k hk hn => ?_⟩
       have hne : g ≠ k := fun e => hn (by subst e; rfl)
       simp [Array.getElem?_modify, hne]
     have hl2 := hr.loseA hA' hρ hf
     refine ⟨.string ⟨⟨qaJ l⟩⟩, _, F, _, .inl ?_, hl2.setR c1 (.v ⟨[.string ⟨⟨qaJ l⟩⟩], rfl, rfl⟩), fun _ h => h, fun _ h => .inl h⟩
     have hcell : ∀ (j : Nat) (x : UInt8), (qaJ l)[j]? = some x → w.cell? ((⟨g, 0, none⟩ : Addr).add j) = some (.int .u8 x.toNat) := by
      intro j x hj
      have hj2 : (qiG (qaJ l))[j]? = some (x.toNat : Int) := by unfold qiG; rw [List.getElem?_map, hj]; rfl
      rw [gl] at hj2
      exact q10 j _ hj2
     have hlen := qkI l
     have hrun := Lib.run_unsafeString_row (P := P) w pt it rty ty p1 p2 g cur.size (by simp [World.shape?, q6]) (qaJ l) (fun e => by rw [e] at hlen; simp at hlen; omega) (by omega) (by unfold maxLen at q8; omega) hcell
     have hmm : (m : Int) = ((qaJ l).length : Nat) := by rw [hlen]; exact gm
     rw [hmm] at hmd
     simp only [execOp, resolve, invoke, builtin, Sem.run_bind, Sem.run_pure, Result.andThen_ok, List.map_toArray, List.map_cons, List.map_nil, he, hmd, Nat.zero_mul, Nat.add_zero]
     rw [hrun]; rfl
  ·cases h
 ·cases h
def cutOf (e : Ty) : SV → Option (List e.den)
 | .cut e' l => if h : e' = e then some (h ▸ l) else none
 | _ => none
def qg2 (Γ : List TI) (st : St) (N d : Nat) (t t2 : TypeId) (x y : Operand) : Option MR :=
 match look Γ t with
 | some i => match i.desc with
  | .slice e => match look Γ e with
   | some j => bif Nat.blt d N && !st.d (fresh st d 8 0) && Nat.beq j.size j.τ.size && Nat.blt 0 j.size && Nat.blt 0 j.bytes && Nat.beq j.zero.cells.size j.size && Nat.beq t t2 then
     match cutOf j.τ (st.ev x), qie st j.τ (st.ev y) with
     | some l, some (l2, ks2) => some ⟨Nat.blt 0 l2.length && fits (l.length + l2.length) j.bytes, qaa x ++ (qaa y ++ (.d (fresh st d 8 0) :: ks2)), [.d (fresh st d 8 0), .a (fresh st d 8 0) (some (.arr e j.τ (l ++ l2))), .r d (.own (fresh st d 8 0))]⟩
     | _, _ => none
    else none
   | none => none
  | _ => none
 | none => none
theorem qjJ (hΓ : Tys P Γ) {d : Nat} {t t2 : TypeId} {x y : Operand} {r : MR} (h : qg2 Γ st N d t t2 x y = some r) (hg : r.g = true) :
  MOk P w0 M N F0 ops st (some d) (.call { callee := .builtin .append, args := #[x, y], argTypes := #[t, t2] }) rty r := by
 unfold qg2 at h
 split at h
 ·rename_i i hl
  obtain ⟨hi, rfl⟩ := qab hΓ hl
  split at h
  ·rename_i e hd
   split at h
   ·rename_i j hl2
    obtain ⟨hj, rfl⟩ := qab hΓ hl2
    generalize hc : (Nat.blt d N && !st.d (fresh st d 8 0) && Nat.beq j.size j.τ.size && Nat.blt 0 j.size && Nat.blt 0 j.bytes && Nat.beq j.zero.cells.size j.size && Nat.beq i.t t2) = c at h
    cases c with
    | false => cases h
    | true =>
     simp only [cond_true] at h
     simp only [Bool.and_eq_true, Bool.not_eq_true'] at hc
     obtain ⟨⟨⟨⟨⟨⟨c1, c2⟩, c3⟩, c4⟩, c5⟩, c6⟩, c7⟩ := hc
     rw [Nat.blt_eq] at c1 c4 c5
     have c3 := Nat.eq_of_beq_eq_true c3
     have c6 := Nat.eq_of_beq_eq_true c6
     have c7 := Nat.eq_of_beq_eq_true c7
     subst c7
     split at h
     ·rename_i l l2 ks2 hold hnew
      injection h with h; subst h
      simp only [Bool.and_eq_true, Nat.blt_eq] at hg
      have hfit := Nat.le_of_ble_eq_true hg.2
      have hbig : l.length + l2.length ≤ 140737488355328 := Nat.le_trans (Nat.le_mul_of_pos_right _ c5) hfit
      intro pos af
      refine RT.stepW rfl fun st' hag F ρ a w hr => ?_
      have hd' : st'.d (fresh st d 8 0) = false := by rw [← c2]; exact (hag (.d _) (by simp)).symm
      have hu := hi.und
      rw [hd] at hu
      have hxd := hr.evx hag (fun _ h => mem_l h) (x := x)
      have hyd := hr.evx hag (fun _ h => mem_r (mem_l h)) (x := y)
      have hinfo := hj.info
      have hns : (∃ c, a.eval y = .slice none 0 c ∧ l2 = []) ∨ ∃ (ad : Addr) (c : Nat) (news : List Value), a.eval y = .slice (some ad) l2.length c ∧ news.length = l2.length * j.τ.size ∧
        (∀ q u, news[q]? = some u → w.cell? (ad.add q) = some u ∧ u.oneCell' = true) ∧ ∀ (q : Nat) (x : j.τ.den), l2[q]? = some x → RdC F w j.τ x ((news.drop (q * j.τ.size)).take j.τ.size) := by
       unfold qie at hnew
       split at hnew
       ·rename_i b hy
        split at hnew
        ·rename_i A hA
         split at hnew
         ·rename_i l' hl'
          injection hnew with hnew; injection hnew with e1 e2; subst e1 e2
          have hA' : st'.a b = some A := by rw [← hA]; exact (hag (.a b) (by simp)).symm
          rw [Ob.as_spec hl'] at hA'
          rw [hy] at hyd
          generalize a.eval y = u at hyd ⊢
          cases hyd with
          | own hρ => exact qfw hr.mem hA' hρ
         ·cases hnew
        ·cases hnew
       ·split at hnew
        ·rename_i l' hl'
         injection hnew with hnew; injection hnew with e1 e2; subst e1 e2
         exact qec (qgf hl' hyd)
        ·cases hnew
      have hos : ∃ (a0 : Option Addr) (xs : List Value), a.eval x = .slice a0 l.length l.length ∧ xs.length = l.length * j.τ.size ∧ (∀ q u, xs[q]? = some u → ∃ a, a0 = some a ∧ w.cell? (a.add q) = some u) ∧ (a0 = none → l.length = 0) ∧
        ∀ (q : Nat) (x : j.τ.den), l[q]? = some x → RdC F w j.τ x ((xs.drop (q * j.τ.size)).take j.τ.size) := by
       unfold cutOf at hold
       split at hold
       ·rename_i e' l' hx
        split at hold
        ·rename_i he
         subst he
         injection hold with hold; subst hold
         rw [hx] at hxd
         generalize a.eval x = u at hxd ⊢
         cases hxd with
         | cut hv =>
          rename_i ad0
          rcases qec (F := F) (w := w) (e := j.τ) (l := l') ⟨_, hv, rfl⟩ with ⟨c, q1, q2⟩ | ⟨ad, c, news, q1, q2, q3, q4⟩
          ·subst q2
           simp only [mkV, Ty.agg, cond_false, List.headD_cons] at q1
           injection q1 with q1 _ _
           exact ⟨none, [], by rw [q1], by simp, fun q u h => by simp at h, fun _ => rfl, fun q x h => by simp at h⟩
          ·simp only [mkV, Ty.agg, cond_false, List.headD_cons] at q1
           injection q1 with q1 _ _
           exact ⟨some ad, news, by rw [q1], q2, fun q u h => ⟨ad, rfl, (q3 q u h).1⟩, (fun h => by cases h), q4⟩
        ·cases hold
       ·cases hold
      obtain ⟨a0, xs, o1, o2, o3, o4, o5⟩ := hos
      rcases hns with ⟨c, hy1, hy2⟩ | ⟨ad, c, news, hy1, hy2, hy3, hy4⟩
      ·exfalso
       rw [hy2] at hg
       exact absurd hg.1 (by simp)
      ·obtain ⟨v', w', k1, k2, k3, k4⟩ := qjC (P := P) (w := w) i.t rty j.t j.size j.bytes j.zero hu hinfo c6 c4 a0 l.length xs (by rw [c3]; exact o2) o3 ad l2.length c news (by rw [hy2, c3]) (fun q u h => (hy3 q u h).1) hg.1 o4 (by simp only [maxLen]; omega) hfit
       rw [← hy1, ← o1] at k1
       have hfr : Fr w (fun _ => False) w' := ⟨k3.os, k3.tape, k3.output, k3.size, fun g hg _ => k3.block g hg (fun e => by cases e)⟩
       have hc' : ∀ g, F g → w'.heap[g]? = w.heap[g]? := fun g hF => hfr.blk _ (hr.mem.fb _ hF) id
       refine ⟨v', _, F, w', .inl ?_, hr.newA hd' c1 hfr ⟨xs ++ news, by rw [List.length_append, ← c3]; exact k2, fun q z hz => qcN o2 (fun q z hz => (o5 q z hz).mono (fun _ h => h) hc') (fun q z hz => (hy4 q z hz).mono (fun _ h => h) hc') q z hz⟩ k4, fun _ h => h, fun _ h => .inl h⟩
       simp only [execOp, resolve, invoke, builtin, Sem.run_bind, Sem.run_pure, Result.andThen_ok, List.map_toArray, List.map_cons, List.map_nil, k1]
     ·cases h
   ·cases h
  ·cases h
 ·cases h
/-! ### An array is appended to, and what it was lives on: both are only read from now on -/
theorem qiK (t ty e : TypeId) (k bytes : Nat) (zv : Value) (ht : P.underlying t = some (.slice e)) (hi0 : ∃ i, P.info? e = some i ∧ i.size = k ∧ i.bytes = bytes ∧ i.zero = some zv) (hzs : zv.cells.size = k) (hsz : 0 < k)
  (g n cap : Nat) (xs : List Value) (hown : OwnR w e k (.slice (some ⟨g, 0, none⟩) n (cap + 1)) n xs)
  (ad : Addr) (m c : Nat) (news : List Value) (hl : news.length = m * k) (hnews : ∀ j u, news[j]? = some u → w.cell? (ad.add j) = some u) (h1 : ∀ u ∈ news, u.oneCell' = true)
  (h63 : n + m ≤ maxLen) (hbytes : (n + m) * bytes ≤ 140737488355328) :
  ∃ v' w', (Builtin.append_ #[t, t] ty #[.slice (some ⟨g, 0, none⟩) n (cap + 1), .slice (some ad) m c]).run P w = .ok v' w' ∧ OwnR w' e k v' (n + m) (xs ++ news) ∧ Fr w (fun g' => g = g') w' ∧
   (blkOf v' = some g ∨ ∀ g', blkOf v' = some g' → w.heap.size ≤ g') ∧ ∀ j u, xs[j]? = some u → w'.cell? ((⟨g, 0, none⟩ : Addr).add j) = some u := by
 obtain ⟨v', w', k1, k2, k3, k4⟩ := qcy t ty e k bytes zv ht hi0 hzs hsz _ n xs hown ad m c news hl hnews h1 h63 hbytes
 refine ⟨v', w', k1, k2, ⟨k3.os, k3.tape, k3.output, k3.size, fun g' hg hn => k3.block g' hg (fun e => hn (Option.some.inj e).symm)⟩, k4, ?_⟩
 obtain ⟨i, hi, hsize, hby, hz⟩ := hi0
 subst hsize
 subst hby
 rcases hown.2 with ⟨_, e1, _⟩ | ⟨g0, cap0, cur, e1, hg, hnc, hcm, hcs, htake⟩
 ·injection e1 with e1 e2 e3; cases e3
 ·injection e1 with e1 _ e3; injection e1 with e1; injection e1 with e1
  subst e1
  have e3 : cap = cap0 := by omega
  subst e3
  by_cases hroom : n + m ≤ cap + 1
  ·have hfit : n * i.size + news.length ≤ cur.size := by rw [hl, hcs, ← Nat.add_mul]; exact Nat.mul_le_mul_right _ hroom
   have hr := run_append_room (P := P) w t ty e i ht hi g n (cap + 1) cur hg ad m c news hl hnews h1 hroom hfit
   rw [k1] at hr
   injection hr with hv' hw'
   intro j u hj
   refine k2.cells (g := g) (m := n + m) (cap := cap + 1) hv' j u ?_
   rw [List.getElem?_append_left (List.getElem?_eq_some_iff.1 hj).1]
   exact hj
  ·have holds : ∀ j u, xs[j]? = some u → w.cell? ((⟨g, 0, none⟩ : Addr).add j) = some u := hown.cells (g := g) rfl
   have hsmall : n + m ≤ 9223372036854775807 := by simp only [maxLen] at h63; omega
   have hr := run_append_grow (P := P) w t ty e i zv ht hi hz ⟨g, 0, none⟩ n (cap + 1) xs hown.1 holds ad m c news hl hnews (by omega) (by omega) (growslice_fits (by omega) hbytes)
   rw [k1] at hr
   injection hr with hv' hw'
   have hgl : g < w.heap.size := (Array.getElem?_eq_some_iff.1 hg).1
   have hsame : w'.heap[g]? = w.heap[g]? := by rw [hw']; exact Below.heap_alloc w.drew _ g hgl
   intro j u hj
   exact (World.cell?_of_block (a := (⟨g, 0, none⟩ : Addr).add j) (by rw [qds]; exact hsame)).trans (holds j u hj)
theorem qg3 {F F' : Nat → Prop} {w : World} {e : Ty} {l : List e.den} {xs : List Value} {g cap : Nat} (hn : l.length ≤ cap) (hm : cap ≤ maxLen) (hl : xs.length = l.length * e.size) (hc : ∀ j u, xs[j]? = some u → w.cell? ((⟨g, 0, none⟩ : Addr).add j) = some u)
  (he : ∀ (i : Nat) (x : e.den), l[i]? = some x → RdC F w e x ((xs.drop (i * e.size)).take e.size)) (hF : ∀ g, F g → F' g) (hg : F' g) : RdV F' w (.sl e) l (.slice (some ⟨g, 0, none⟩) l.length cap) := by
 refine ⟨[.slice (some ⟨g, 0, none⟩) l.length cap], ⟨some ⟨g, 0, none⟩, cap, rfl, fun _ => hg, hn, hm, fun i x hx => ⟨_, (he i x hx).mono hF (fun _ _ => rfl), fun j v hj => ?_⟩⟩, rfl⟩
 rw [List.getElem?_take] at hj
 split at hj
 ·rw [List.getElem?_drop] at hj; exact hc _ _ hj
 ·cases hj
theorem qpZ {F' : Nat → Prop} {w : World} {e : Ty} (ad : Option Addr) : RdV F' w (.sl e) [] (.slice ad 0 0) := by
 refine ⟨[.slice ad 0 0], ⟨ad, 0, rfl, ?_⟩, rfl⟩
 cases ad with
 | none => rfl
 | some a => exact ⟨fun h => by omega, Nat.le_refl _, Nat.zero_le _, fun i x hx => by simp at hx⟩
theorem qg4 {F F' : Nat → Prop} {w : World} {ty : TypeId} {e : Ty} {l : List e.den} {u : Value} {xs : List Value} (h : OwnR w ty e.size u l.length xs) (he : ∀ (i : Nat) (x : e.den), l[i]? = some x → RdC F w e x ((xs.drop (i * e.size)).take e.size))
  (hF : ∀ g, F g → F' g) (hb : ∀ g, blkOf u = some g → F' g) : RdV F' w (.sl e) l u := by
 rcases h.2 with ⟨ad, rfl, hn⟩ | ⟨g, cap, cur, rfl, h1, h2, h3, _⟩
 ·have := List.eq_nil_of_length_eq_zero hn
  subst this
  exact qpZ ad
 ·exact qg3 h2 h3 h.1 (h.cells (g := g) rfl) he hF (hb g rfl)
theorem Rel'.reR (h : Rel' P w0 M N F ρ st a w) {t : Nat} {s : SV} (hv : Den P F w ρ s (a.tmps.getD t undef)) : Rel' P w0 M N F ρ (st.put (.r t s)) a w := by
 refine ⟨h.fr, h.mem.congr rfl rfl rfl rfl, h.lo, fun t' => ?_, h.sz, h.df, h.pin, h.lok⟩
 show Den P F w ρ (bif Nat.beq t' t then s else st.r t') _
 cases hb : Nat.beq t' t with
 | true => rw [Nat.eq_of_beq_eq_true hb]; exact hv
 | false => exact h.regs t'
def ownOf (st : St) (te : TypeId) (e : Ty) : SV → Option (Nat × List e.den)
 | .own b => match st.a b with
  | some A => match A.as e with
   | some l => bif Nat.beq A.ty te then some (b, l) else none
   | none => none
  | none => none
 | _ => none
theorem qmH {te : TypeId} {e : Ty} {s : SV} {b : Nat} {l : List e.den} (h : ownOf st te e s = some (b, l)) : s = .own b ∧ st.a b = some (.arr te e l) := by
 unfold ownOf at h
 split at h
 ·rename_i b'
  split at h
  ·rename_i A hA
   split at h
   ·rename_i l' hl'
    cases hb : Nat.beq A.ty te with
    | false => rw [hb] at h; cases h
    | true =>
     rw [hb] at h; injection h with h; injection h with e1 e2; subst e1 e2
     exact ⟨rfl, by rw [hA, Ob.as_spec hl', Nat.eq_of_beq_eq_true hb]⟩
   ·cases h
  ·cases h
 ·cases h
def qg5 (Γ : List TI) (st : St) (N d : Nat) (t t2 : TypeId) (tx : Nat) (y : Operand) : Option MR :=
 match look Γ t with
 | some i => match i.desc with
  | .slice e => match look Γ e with
   | some j => bif Nat.blt d N && Nat.beq j.size j.τ.size && Nat.blt 0 j.size && Nat.blt 0 j.bytes && Nat.beq j.zero.cells.size j.size && Nat.beq t t2 && !Nat.beq tx d then
     match ownOf st e j.τ (st.r tx), qie st j.τ (st.ev y) with
     | some (b, l), some (l2, ks2) => some ⟨fits (l.length + l2.length) j.bytes, .r tx :: (qaa y ++ (.a b :: ks2)), [.a b none, .r tx (.fzd b (.sl j.τ) l), .r d (.v (.sl j.τ) (l ++ l2))]⟩
     | _, _ => none
    else none
   | none => none
  | _ => none
 | none => none
theorem qjK (hΓ : Tys P Γ) {d tx : Nat} {t t2 : TypeId} {y : Operand} {r : MR} (h : qg5 Γ st N d t t2 tx y = some r) (hg : r.g = true) :
  MOk P w0 M N F0 ops st (some d) (.call { callee := .builtin .append, args := #[.tmp tx, y], argTypes := #[t, t2] }) rty r := by
 unfold qg5 at h
 split at h
 ·rename_i i hl
  obtain ⟨hi, rfl⟩ := qab hΓ hl
  split at h
  ·rename_i e hd
   split at h
   ·rename_i j hl2
    obtain ⟨hj, rfl⟩ := qab hΓ hl2
    generalize hc : (Nat.blt d N && Nat.beq j.size j.τ.size && Nat.blt 0 j.size && Nat.blt 0 j.bytes && Nat.beq j.zero.cells.size j.size && Nat.beq i.t t2 && !Nat.beq tx d) = c at h
    cases c with
    | false => cases h
    | true =>
     simp only [cond_true] at h
     simp only [Bool.and_eq_true, Bool.not_eq_true'] at hc
     obtain ⟨⟨⟨⟨⟨⟨c1, c3⟩, c4⟩, c5⟩, c6⟩, c7⟩, c8⟩ := hc
     rw [Nat.blt_eq] at c1 c4 c5
     have c3 := Nat.eq_of_beq_eq_true c3
     have c6 := Nat.eq_of_beq_eq_true c6
     have c7 := Nat.eq_of_beq_eq_true c7
     have c8 : tx ≠ d := fun e => by subst e; rw [show Nat.beq tx tx = true by simp] at c8; cases c8
     subst c7
     split at h
     ·rename_i b l l2 ks2 hold hnew
      injection h with h; subst h
      obtain ⟨hrx, hA⟩ := qmH hold
      have hfit := Nat.le_of_ble_eq_true hg
      have hbig : l.length + l2.length ≤ 140737488355328 := Nat.le_trans (Nat.le_mul_of_pos_right _ c5) hfit
      intro pos af
      refine RT.stepW rfl fun st' hag F ρ a w hr => ?_
      have hu := hi.und
      rw [hd] at hu
      have hinfo := hj.info
      have hxd : Den P F w ρ (.own b) (a.tmps.getD tx undef) := by
       have h1 := hr.regs tx
       rw [show st'.r tx = .own b by rw [← hrx]; exact (hag (.r tx) (by simp)).symm] at h1
       exact h1
      have hyd := hr.evx hag (fun _ h => List.mem_cons_of_mem _ (mem_l h)) (x := y)
      have hA' : st'.a b = some (.arr j.t j.τ l) := by rw [← hA]; exact (hag (.a b) (by simp)).symm
      -- the news
      have hns : (∃ c, a.eval y = .slice none 0 c ∧ l2 = []) ∨ ∃ (ad : Addr) (c : Nat) (news : List Value), a.eval y = .slice (some ad) l2.length c ∧ news.length = l2.length * j.τ.size ∧
        (∀ q u, news[q]? = some u → w.cell? (ad.add q) = some u ∧ u.oneCell' = true) ∧ ∀ (q : Nat) (x : j.τ.den), l2[q]? = some x → RdC F w j.τ x ((news.drop (q * j.τ.size)).take j.τ.size) := by
       unfold qie at hnew
       split at hnew
       ·rename_i b' hy
        split at hnew
        ·rename_i A hA2
         split at hnew
         ·rename_i l' hl'
          injection hnew with hnew; injection hnew with e1 e2; subst e1 e2
          have hA2' : st'.a b' = some A := by rw [← hA2]; exact (hag (.a b') (by simp)).symm
          rw [Ob.as_spec hl'] at hA2'
          rw [hy] at hyd
          generalize a.eval y = u at hyd ⊢
          cases hyd with
          | own hρ => exact qfw hr.mem hA2' hρ
         ·cases hnew
        ·cases hnew
       ·split at hnew
        ·rename_i l' hl'
         injection hnew with hnew; injection hnew with e1 e2; subst e1 e2
         exact qec (qgf hl' hyd)
        ·cases hnew
      -- the array that is appended to
      generalize hue : a.tmps.getD tx undef = u at hxd
      cases hxd with
      | own hρ =>
      obtain ⟨u', g1, xs, ho1, ho2⟩ := hr.mem.arr b _ hA'
      rw [hρ] at g1; injection g1 with g1; subst g1
      have hp0 : st'.present b := .inr (by rw [hA']; simp)
      have hnF : ∀ g, F g → ¬ blkOf u = some g := fun g hF hg => hr.mem.own b u g hp0 hρ hg hF
      have hlo0 : ∀ g, blkOf u = some g → M.blk g ∨ w0.heap.size ≤ g := fun g hg => hr.lo b u g hp0 hρ hg
      -- what is run
      have happ : ∃ v' w' xs', (Builtin.append_ #[i.t, i.t] rty #[u, a.eval y]).run P w = .ok v' w' ∧ OwnR w' j.t j.τ.size v' (l ++ l2).length xs' ∧ (∀ (q : Nat) (x : j.τ.den), (l ++ l2)[q]? = some x → RdC F w' j.τ x ((xs'.drop (q * j.τ.size)).take j.τ.size)) ∧
        Fr w (fun g => blkOf u = some g) w' ∧ (blkOf v' = blkOf u ∨ ∀ g, blkOf v' = some g → w.heap.size ≤ g) ∧ ∀ F' : Nat → Prop, (∀ g, F g → F' g) → (∀ g, blkOf u = some g → F' g) → RdV F' w' (.sl j.τ) l u := by
       rcases hns with ⟨c, hy1, hy2⟩ | ⟨ad, c, news, hy1, hy2, hy3, hy4⟩
       ·subst hy2
        have hr1 := qgY (P := P) (w := w) i.t rty j.t j.size j.bytes j.zero hu hinfo u l.length xs (by rw [c3]; exact ho1) c
        rw [← hy1] at hr1
        exact ⟨u, w, xs, hr1, by rw [List.append_nil]; exact ho1, by rw [List.append_nil]; exact ho2, Fr.refl w _, .inl rfl, fun F' h1 h2 => qg4 ho1 ho2 h1 h2⟩
       ·have hlen : (l ++ l2).length = l.length + l2.length := List.length_append
        rcases ho1.2 with ⟨a0, e0, hn0⟩ | ⟨g, cap, cur, e0, hheap, hncap, hcapm, hcs, htake⟩
        ·-- no block
         have hl0 := List.eq_nil_of_length_eq_zero hn0
         have hbu : ∀ g, blkOf u = some g → False := fun g hg => by rw [e0] at hg; cases a0 <;> cases hg
         obtain ⟨v', w', k1, k2, k3, k4⟩ := qcy (P := P) (w := w) i.t rty j.t j.size j.bytes j.zero hu hinfo c6 c4 u l.length xs (by rw [c3]; exact ho1) ad l2.length c news (by rw [hy2, c3]) (fun q u h => (hy3 q u h).1) (fun u hu => by
          obtain ⟨q, hq⟩ := List.getElem?_of_mem hu; exact (hy3 q u hq).2) (by simp only [maxLen]; omega) hfit
         rw [← hy1] at k1
         have hc' : ∀ g, F g → w'.heap[g]? = w.heap[g]? := fun g hF => k3.block g (hr.mem.fb g hF) (fun e => hnF g hF e.symm)
         refine ⟨v', w', xs ++ news, k1, by rw [hlen, ← c3]; exact k2, fun q z hz => qcN ho1.1 (fun q z hz => (ho2 q z hz).mono (fun _ h => h) hc') (fun q z hz => (hy4 q z hz).mono (fun _ h => h) hc') q z hz, ⟨k3.os, k3.tape, k3.output, k3.size, fun g hg hn => k3.block g hg (fun e => hn e.symm)⟩, k4, fun F' _ _ => ?_⟩
         subst hl0
         rw [e0]; exact qpZ a0
        ·subst e0
         obtain ⟨v', w', k1, k2, k3, k4, k5⟩ := qiK (P := P) (w := w) i.t rty j.t j.size j.bytes j.zero hu hinfo c6 c4 g l.length cap xs (by rw [c3]; exact ho1) ad l2.length c news (by rw [hy2, c3]) (fun q u h => (hy3 q u h).1) (fun u hu => by
          obtain ⟨q, hq⟩ := List.getElem?_of_mem hu; exact (hy3 q u hq).2) (by simp only [maxLen]; omega) hfit
         rw [← hy1] at k1
         have hbu : ∀ g', blkOf (.slice (some ⟨g, 0, none⟩) l.length (cap + 1)) = some g' ↔ g = g' := fun g' => ⟨fun h => Option.some.inj h, fun h => by rw [h]; rfl⟩
         have hc' : ∀ g', F g' → w'.heap[g']? = w.heap[g']? := fun g' hF => k3.blk g' (hr.mem.fb g' hF) (fun e => hnF g' hF ((hbu g').2 e))
         refine ⟨v', w', xs ++ news, k1, by rw [hlen, ← c3]; exact k2, fun q z hz => qcN ho1.1 (fun q z hz => (ho2 q z hz).mono (fun _ h => h) hc') (fun q z hz => (hy4 q z hz).mono (fun _ h => h) hc') q z hz, ⟨k3.os, k3.tape, k3.output, k3.size, fun g' hg hn => k3.blk g' hg (fun e => hn ((hbu g').2 e))⟩, k4, fun F' h1 h2 => ?_⟩
         exact qg3 hncap hcapm ho1.1 k5 (fun q z hz => (ho2 q z hz).mono (fun _ h => h) hc') h1 (h2 g rfl)
      obtain ⟨v', w', xs', k1, k2, k2e, k3, k4, k5⟩ := happ
      have hexec : (execOp a.eval ⟨some d, .call { callee := .builtin .append, args := #[.tmp tx, y], argTypes := #[i.t, i.t] }, rty, pos, af, none⟩).run P w = .ok (.value v') w' := by
       have hev : a.eval (.tmp tx) = u := hue
       simp only [execOp, resolve, invoke, builtin, Sem.run_bind, Sem.run_pure, Result.andThen_ok, List.map_toArray, List.map_cons, List.map_nil, hev, k1]
      have hpr : ∀ b', (st'.put (.a b none)).present b' → b' ≠ b ∧ st'.present b' := by
       intro b' hp
       by_cases e : b' = b
       ·subst e
        exfalso
        rcases hp with hp | hp
        ·have hv0 : st'.v b' = none := by
          cases hx : st'.v b' with
          | none => rfl
          | some x =>
           obtain ⟨g, arr, q1, q1b, _⟩ := hr.mem.var b' x.1 x.2 hx
           obtain ⟨u2, q2, q3⟩ := hr.mem.arr b' _ hA'
           rw [q1] at q2; injection q2 with q2; subst q2
           exact (q3.novar rfl q1b).elim
         exact hp hv0
        ·refine hp ?_
         show (bif Nat.beq b' b' then none else st'.a b') = none
         simp
       ·refine ⟨e, ?_⟩
        rcases hp with hp | hp
        ·exact .inl hp
        ·refine .inr ?_
         have hp' : (bif Nat.beq b' b then none else st'.a b') ≠ none := hp
         rw [bq e] at hp'; exact hp'
      have hmv := (hr.dropA b).move (F' := fun g => F g ∨ blkOf u = some g ∨ blkOf v' = some g) k3 (fun b' g hk hg => hr.mem.kap.k2 b' b u g hk hp0 hρ hg) (fun b' v g hp hv hg hg0 => (hpr b' hp).1 (hr.mem.sep b' b v u g (hpr b' hp).2 hp0 hv hρ hg hg0)) hnF (fun _ h => .inl h)
       (fun g hg => by
        rcases hg with hg | hg | hg
        ·exact .inl hg
        ·exact .inr (.inl hg)
        ·rcases k4 with k4 | k4
         ·rw [k4] at hg; exact .inr (.inl hg)
         ·exact .inr (.inr (k4 g hg)))
       (fun g hg => by
        rcases hg with hg | hg | hg
        ·exact Nat.lt_of_lt_of_le (hr.mem.fb g hg) k3.size
        ·exact Nat.lt_of_lt_of_le (hr.mem.lt hp0 hρ hg) k3.size
        ·rcases k2.2 with ⟨ad, e0, _⟩ | ⟨g', cap', cur', e0, hh, _⟩
         ·rw [e0] at hg; cases ad <;> cases hg
         ·rw [e0] at hg
          have : g' = g := Option.some.inj hg
          rw [← this]; exact (Array.getElem?_eq_some_iff.1 hh).1)
       (fun g hg hlt => (hlo0 g hg).resolve_right (by omega))
      have h2 := hmv.reR (t := tx) (s := .fzd b (.sl j.τ) l) (by rw [hue]; exact .fzd hρ (k5 _ (fun _ h => .inl h) (fun _ h => .inr (.inl h))))
      have h3 := h2.setR (d := d) (s := .v (.sl j.τ) (l ++ l2)) (u := v') c1 (.v (qg4 k2 k2e (fun _ h => .inl h) (fun _ h => .inr (.inr h))))
      refine ⟨v', ρ, _, w', .inl hexec, h3, fun _ h => .inl h, fun g hg => ?_⟩
      rcases hg with hg | hg | hg
      ·exact .inl hg
      ·exact .inr (hlo0 g hg)
      ·rcases k4 with k4 | k4
       ·rw [k4] at hg; exact .inr (hlo0 g hg)
       ·exact .inr (.inr (Nat.le_trans hr.fr.size (k4 g hg)))
     ·cases h
   ·cases h
  ·cases h
 ·cases h
def evMem (Γ : List TI) (ow : List Nat) (st : St) (N : Nat) (dst : Option Nat) : Op → Option MR
 | .box t x => match dst with
  | some d => bif memN ow (d + 3000000) then qnE Γ st N d t x else evBox st N d t x
  | none => none
 | .alloc t => match dst with
  | some d => bif memN ow (d + 3000000) then qiC Γ st N d t else qkB Γ st N d t
  | none => none
 | .store t x y => match dst with
  | none => qkD Γ st t x y
  | some _ => none
 | .buildSlice t len ⟨parts⟩ => match dst with
  | some d => bif memN ow (d + 6000000) then none else bif memN ow d then qiD Γ st N d t len parts else qgZ Γ st N d t len parts
  | none => none
 | .makeSlice t x y => match dst with
  | some d => bif memN ow (d + 6000000) then none else qnG Γ st N d t x y
  | none => none
 | .call ⟨.builtin .append, ⟨[x, y]⟩, ⟨[t, t2]⟩⟩ => match dst with
  | some d => match st.ev x with
   | .cut _ _ => qg2 Γ st N d t t2 x y
   | _ => bif memN ow d then (match x with | .tmp tx => qg5 Γ st N d t t2 tx y | _ => none) else bif Nat.beq t t2 then qiE Γ st N d t t2 x y else bif qpX Γ t2 then qg1 Γ st N d t t2 x y else qg0 Γ st N d t t2 x y
  | none => none
 | .call ⟨.builtin .unsafeSliceData, ⟨[x]⟩, ⟨[_]⟩⟩ => match dst with
  | some d => qkJ st N d x
  | none => none
 | .call ⟨.builtin .unsafeString, ⟨[x, y]⟩, ⟨[pt, _]⟩⟩ => match dst with
  | some d => qnL Γ st N d pt x y
  | none => none
 | .slice t x lo (some hi) (some mx) => match dst with
  | some d => bif lo.isNone && isZ hi && isZ mx then qnJ Γ st N d t x hi mx else evCut Γ ow st N d t x lo hi mx
  | none => none
 | .slice t x none (some hi) none => match dst with
  | some d => bif memN ow (d + 5000000) then none else qkG Γ st N d t x hi
  | none => none
 | _ => none
theorem qlI (hΓ : Tys P Γ) {ow : List Nat} {dst : Option Nat} {op : Op} {r : MR} (h : evMem Γ ow st N dst op = some r) (hg : r.g = true) : MOk P w0 M N F0 ops st dst op rty r := by
 unfold evMem at h
 split at h
 all_goals first | (cases h; done) | (split at h <;> first | (cases h; done) | skip)
 ·generalize memN ow _ = bo at h
  cases bo with
  | true => exact qnF hΓ h
  | false => exact qpe h
 ·generalize memN ow _ = bo at h
  cases bo with
  | true => exact qkC hΓ h
  | false => exact qmB hΓ h
 ·exact qmC hΓ h
 ·rename_i d
  generalize memN ow (d + 6000000) = bo at h
  cases bo with
  | true => cases h
  | false =>
  simp only [cond_false] at h
  cases ho : memN ow d with
  | true => rw [ho] at h; exact qkE hΓ h
  | false => rw [ho] at h; exact qjF hΓ h
 ·generalize memN ow _ = bo at h
  cases bo with
  | true => cases h
  | false => exact qnH hΓ h hg
 ·split at h
  ·exact qjJ hΓ h hg
  ·generalize memN ow _ = bo at h
   cases bo with
   | true =>
    simp only [cond_true] at h
    split at h
    ·exact qjK hΓ h hg
    ·cases h
   | false =>
   simp only [cond_false] at h
   cases hb : Nat.beq _ _ with
   | true => rw [hb] at h; exact qkF hΓ h hg
   | false =>
    rw [hb] at h; simp only [cond_false] at h
    generalize qpX Γ _ = c at h
    cases c with
    | true => exact qjI hΓ h hg
    | false => exact qjG hΓ h hg
 ·exact qmG h hg
 ·exact qnM hΓ h hg
 ·rename_i lo hi mx dst d
  generalize hc : (lo.isNone && isZ hi && isZ mx) = c at h
  cases c with
  | true =>
   simp only [Bool.and_eq_true] at hc
   obtain rfl : lo = none := by simpa using hc.1.1
   exact qnK hΓ h
  | false => exact qpg hΓ h hg
 ·generalize memN ow _ = bo at h
  cases bo with
  | true => cases h
  | false => exact qmE hΓ h hg
end
end Go.Sq
