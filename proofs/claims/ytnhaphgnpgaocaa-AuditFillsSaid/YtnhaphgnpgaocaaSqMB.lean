/- The second engine, part MB: walks through maps; bytes as a string. No condition. -/
import Derived.Test.YtnhaphgnpgaocaaSqMA
import Derived.Laws.BytesArg
namespace Go.Sq
open Go Go.RowKit Go.MapKept

section
variable {P : Program} {w0 : World} {M : Mod} {N : Nat} {F0 : Nat → Prop} {ops : Array Oper} {st : St} {Γ : List TI} {rty : TypeId}
variable {F : Nat → Prop} {ρ : Env} {a : Act} {w : World}

/-! ### A map that is only read: an entry, how many there are -/
theorem rd_map {k v : Ty} {l : List (k.den × v.den)} {u : Value} (h : RdV F w (.map k v) l u) : (u = .map none ∧ l = []) ∨ ∃ r es clock, u = .map (some r) ∧ F r ∧ w.heap[r]? = some (.map es clock) ∧ MapEs F w k v l es clock := by
  obtain ⟨cs, h1, rfl⟩ := h
  rcases h1 with ⟨rfl, h⟩ | ⟨r, es, clock, rfl, h1, h2, h3, h4⟩
  · exact .inl ⟨rfl, h⟩
  · exact .inr ⟨r, es, clock, rfl, h1, h2, h3, h4⟩
def evLookupR (Γ : List TI) (st : St) (t : TypeId) (x ix : Operand) (ok : Bool) : Option VR :=
  match mapTy Γ t with
  | some (kj, ej) => match (st.ev x).dat (.map kj.τ ej.τ), (st.ev ix).dat kj.τ with
    | some l, some y => some ⟨true, opKeys x ++ opKeys ix, optS ej.τ ok ej.τ.dflt (mget (keyO kj.τ) l y)⟩
    | _, _ => none
  | none => none
theorem evLookupR_ok (hΓ : Tys P Γ) {t : TypeId} {x ix : Operand} {ok : Bool} {r : VR} (h : evLookupR Γ st t x ix ok = some r) : VOk P w0 M N st (.lookup t x ix ok) rty r := by
  unfold evLookupR at h
  split at h
  · rename_i kj ej hm
    obtain ⟨m1, m2, m3, m4, m5⟩ := mapTy_ok hΓ hm
    split at h
    · rename_i l y hx hy
      injection h with h; subst h
      intro st' hag F ρ a w hr dst pos af gd
      have hxd := dat_den hx (hr.evx hag (fun _ h => mem_l h) (x := x))
      have hyd := dat_den hy (hr.evx hag (fun _ h => mem_r h) (x := ix))
      generalize he : a.eval x = u at hxd
      obtain ⟨inf, i1, i2, i3, i4⟩ := m5.info
      have hu := key_is m3 hyd
      rcases rd_map hxd with ⟨rfl, rfl⟩ | ⟨r, es, clock, rfl, _, h2, h3⟩
      · have hrun := run_lookup (w := w) (o := none) m1 m2 i1 i4 hu (.inl ⟨rfl, rfl⟩) rfl ok
        exact ⟨_, by simp only [execOp, he, hrun, Sem.run_bind, Sem.run_pure, Result.andThen_ok], optS_den (zOk_rd m4) (.inl ⟨rfl, rfl⟩)⟩
      · obtain ⟨_, hf⟩ := map_find h3 m3 hyd
        rcases hf with ⟨f1, _, f2, _⟩ | ⟨j, e, p, f1, _, _, f5, f6, _⟩
        · have hrun := run_lookup (w := w) m1 m2 i1 i4 hu (.inr ⟨r, clock, rfl, h2⟩) f1 ok
          exact ⟨_, by simp only [execOp, he, hrun, Sem.run_bind, Sem.run_pure, Result.andThen_ok], optS_den (zOk_rd m4) (.inl ⟨f2, rfl⟩)⟩
        · have hrun := run_lookup (w := w) m1 m2 i1 i4 hu (.inr ⟨r, clock, rfl, h2⟩) f1 ok
          exact ⟨_, by simp only [execOp, he, hrun, Sem.run_bind, Sem.run_pure, Result.andThen_ok], optS_den (zOk_rd m4) (.inr ⟨p, j, e.val, f5, rfl, f6⟩)⟩
    · cases h
  · cases h

/-! ### A walk begins; the entry at which it stands -/
def evRange (Γ : List TI) (st : St) (N d : Nat) (t : TypeId) (x : Operand) : Option MR :=
  match mapTy Γ t with
  | some (kj, ej) => match (st.ev x).dat (.map kj.τ ej.τ) with
    | some l => bif Nat.blt d N && !st.d (fresh st d 8 0) then some ⟨true, opKeys x ++ [.d (fresh st d 8 0)], [.d (fresh st d 8 0), .a (fresh st d 8 0) (some (.iter false kj.τ ej.τ ((kj.τ.dflt, ej.τ.dflt) :: l))), .r d (.own (fresh st d 8 0))]⟩ else none
    | none => none
  | none => none
theorem left_all (es : Array MapEntry) : leftOf es #[] = es := by
  unfold leftOf
  exact Array.filter_eq_self.2 fun x _ => by simp
theorem evRange_ok (hΓ : Tys P Γ) {d : Nat} {t : TypeId} {x : Operand} {r : MR} (h : evRange Γ st N d t x = some r) : MOk P w0 M N F0 ops st (some d) (.range t x) rty r := by
  unfold evRange at h
  split at h
  · rename_i kj ej hm
    obtain ⟨m1, m2, m3, m4, m5⟩ := mapTy_ok hΓ hm
    split at h
    · rename_i l hx
      cases hc : (Nat.blt d N && !st.d (fresh st d 8 0)) with
      | false => rw [hc] at h; cases h
      | true =>
        rw [hc] at h; injection h with h; subst h
        rw [Bool.and_eq_true, Nat.blt_eq, Bool.not_eq_true'] at hc
        intro pos af
        refine RT.stepW rfl fun st' hag F ρ a w hr => ?_
        have hxd := dat_den hx (hr.evx hag (fun _ h => mem_l h) (x := x))
        have hd' : st'.d (fresh st d 8 0) = false := by rw [← hc.2]; exact (hag (.d _) (by simp)).symm
        generalize he : a.eval x = u at hxd
        rcases rd_map hxd with ⟨rfl, rfl⟩ | ⟨m, es, clock, rfl, hFm, h2, h3⟩
        · have hob : ObOk F (w.alloc (.mapIter none 0 #[] 0)) (.iter false kj.τ ej.τ [(kj.τ.dflt, ej.τ.dflt)]) (.pointer (some ⟨w.heap.size, 0, none⟩)) :=
            ⟨w.heap.size, none, 0, #[], 0, rfl, (heap_alloc w _).1, .inl ⟨rfl, rfl⟩, fun h => by cases h⟩
          have hrun : (Instr.range t (.map none)).run P w = .ok (.pointer (some ⟨w.heap.size, 0, none⟩)) (w.alloc (.mapIter none 0 #[] 0)) := by
            simp [Instr.range, run_underlying m1, Result.andThen, newObj, Sem.run]
          refine ⟨_, _, F, w.alloc (.mapIter none 0 #[] 0), .inl ?_, hr.newA hd' hc.1 (fr_alloc w _) hob (fun g hg => by injection hg with hg; subst hg; exact Nat.le_refl _), fun _ h => h, fun _ h => .inl h⟩
          simp only [execOp, he, hrun, Sem.run_bind, Sem.run_pure, Result.andThen_ok]
        · have hmlt := hr.mem.fb m hFm
          have hfr := fr_alloc w (.mapIter (some m) clock #[] clock)
          have hFw : ∀ g, F g → (w.alloc (.mapIter (some m) clock #[] clock)).heap[g]? = w.heap[g]? := fun g hF => hfr.blk _ (hr.mem.fb _ hF) id
          have hob : ObOk F (w.alloc (.mapIter (some m) clock #[] clock)) (.iter false kj.τ ej.τ ((kj.τ.dflt, ej.τ.dflt) :: l)) (.pointer (some ⟨w.heap.size, 0, none⟩)) := by
            obtain ⟨Z, z1, z2, z3⟩ := h3.ent
            refine ⟨w.heap.size, some m, clock, #[], clock, rfl, (heap_alloc w _).1, .inr ⟨m, es, clock, rfl, hFm, (hFw m hFm).trans h2, h3.st, rfl, rfl, ⟨Z.map (·.2), ?_, ?_, fun i x e hx he => ?_⟩, fun s hs => by simp at hs⟩, fun h => by cases h⟩
            · rw [left_all]; exact z2
            · rw [← z1]; simp
            · have hx : (Z.map (·.1))[i]? = some x := by rw [z1]; exact hx
              rw [List.getElem?_map, Option.map_eq_some_iff] at hx
              rw [List.getElem?_map, Option.map_eq_some_iff] at he
              obtain ⟨z, hz, rfl⟩ := hx
              obtain ⟨z', hz', rfl⟩ := he
              rw [hz] at hz'; injection hz' with hz'; subst hz'
              obtain ⟨⟨c1, p1, p2⟩, ⟨c2, q1, q2⟩⟩ := z3 z (List.mem_of_getElem? hz)
              exact ⟨⟨c1, p1.mono (fun _ h => h) hFw, p2⟩, ⟨c2, q1.mono (fun _ h => h) hFw, q2⟩⟩
          have hrun : (Instr.range t (.map (some m))).run P w = .ok (.pointer (some ⟨w.heap.size, 0, none⟩)) (w.alloc (.mapIter (some m) clock #[] clock)) := by
            simp [Instr.range, run_underlying m1, MapKept.run_getObj_map h2, Result.andThen, newObj, Sem.run]
          refine ⟨_, _, F, w.alloc (.mapIter (some m) clock #[] clock), .inl ?_, hr.newA hd' hc.1 hfr hob (fun g hg => by injection hg with hg; subst hg; exact Nat.le_refl _), fun _ h => h, fun _ h => .inl h⟩
          simp only [execOp, he, hrun, Sem.run_bind, Sem.run_pure, Result.andThen_ok]
    · cases h
  · cases h

def evEntry (st : St) (x : Operand) : Option VR :=
  match st.ev x with
  | .own b => match st.a b with
    | some (.iter true k v c) => some ⟨true, opKeys x ++ [.a b], .tup [.v k (c.headD (k.dflt, v.dflt)).1, .v v (c.headD (k.dflt, v.dflt)).2]⟩
    | _ => none
  | _ => none
theorem evEntry_ok {x : Operand} {r : VR} (h : evEntry st x = some r) : VOk P w0 M N st (.entry x) rty r := by
  unfold evEntry at h
  split at h
  · rename_i b hx
    split at h
    · rename_i k v c hA
      injection h with h; subst h
      intro st' hag F ρ a w hr dst pos af gd
      have hxd := hr.evx hag (fun _ h => mem_l h) (x := x)
      rw [hx] at hxd
      generalize he : a.eval x = u at hxd
      cases hxd with
      | own hρ =>
        obtain ⟨u', q1, q2⟩ := hr.mem.arr b _ (by rw [← (hag (.a b) (by simp) : st.a b = st'.a b)]; exact hA)
        rw [hρ] at q1; injection q1 with q1; subst q1
        obtain ⟨it, mo, since, seen, last, rfl, h1, h2, h3⟩ := q2
        obtain ⟨n1, n2⟩ := h3 rfl
        rcases h2 with ⟨e, _⟩ | ⟨m, es, clock, rfl, hFm, hm, hst, rfl, rfl, _, hb⟩
        · exact absurd e n1
        · obtain ⟨s, hs⟩ := Option.ne_none_iff_exists'.1 n2
          obtain ⟨e, e1, e2, y, e3, e4, e5⟩ := hb s hs
          have hseen : seen = seen.pop.push e.born := by
            rw [e2]
            have hsz : 0 < seen.size := by
              rcases Nat.eq_zero_or_pos seen.size with h0 | h0
              · rw [Array.eq_empty_of_size_eq_zero h0] at hs; simp at hs
              · exact h0
            have hb2 : seen.back? = some (seen[seen.size - 1]) := by rw [Array.back?_eq_getElem?, Array.getElem?_eq_getElem (by omega)]
            rw [hb2] at hs; injection hs with hs
            rw [← hs]
            apply Array.ext
            · simp; omega
            · intro i h1 h2
              rw [Array.getElem_push]
              split
              · simp
              · rename_i hi
                have e9 : i = seen.size - 1 := by simp at h1 hi; omega
                subst e9; rfl
          rw [hseen] at h1
          have hrun := run_entry_at (P := P) w it m _ seen.pop es _ e h1 hm e1 hst.2.1
          refine ⟨.tuple #[e.key, e.val], by simp only [execOp, he, hrun, Sem.run_bind, Sem.run_pure, Result.andThen_ok], ?_⟩
          have hy : c.headD (k.dflt, v.dflt) = y := by
            cases c with
            | nil => cases e3
            | cons z c => injection e3
          rw [hy]
          refine .tup (vs := [_, _]) rfl fun i s u hs hu => ?_
          match i with
          | 0 => simp at hs hu; subst hs hu; exact .v e4
          | 1 => simp at hs hu; subst hs hu; exact .v e5
          | i + 2 => simp at hs
    · cases h
  · cases h

/-- The next entry of a walk, whichever it is. -/
theorem next_cases {b : Nat} {on : Bool} {k v : Ty} {c : List (k.den × v.den)} (hr : Rel' P w0 M N F ρ st a w) (hA : st.a b = some (.iter on k v c)) {u : Value} (hρ : ρ b = some u) (ty : TypeId) :
    (c.tail = [] ∧ (Instr.next u false ty).run P w = .ok (.tuple #[.bool false]) w) ∨
    ∃ (i : Nat) (x : k.den × v.den) (ku vu : Value) (w' : World), c.tail[i]? = some x ∧ (Instr.next u false ty).run P w = .ok (.tuple #[.bool true, ku, vu]) w' ∧ RdV F w' k x.1 ku ∧ RdV F w' v x.2 vu ∧
      Rel' P w0 M N F ρ (st.put (.a b (some (.iter true k v (x :: c.tail.eraseIdx i))))) a w' := by
  obtain ⟨u', q1, it, mo, since, seen, last, rfl, h1, h2, _⟩ := hr.mem.arr b _ hA
  rw [hρ] at q1; injection q1 with q1; subst q1
  have hp0 : st.present b := .inr (by rw [hA]; simp)
  rcases h2 with ⟨rfl, h2⟩ | ⟨m, es, clock, rfl, hFm, hm, hst, es1, es2, ⟨L, l1, l2, l3⟩, _⟩
  · exact .inl ⟨h2, by simp [Instr.next, getObj, Sem.run, h1, Result.andThen]⟩
  · subst es1
    have es2' := es2.symm
    subst es2'
    have hold : ∀ x ∈ es.toList, x.born < since := hst.1
    rcases run_next_at (P := P) w ty it m since since seen es since h1 hm hold (Nat.le_refl _) with ⟨h0, hrun⟩ | ⟨e, he, w1, hw1, hrun⟩
    · left
      refine ⟨List.eq_nil_of_length_eq_zero ?_, hrun⟩
      rw [← l2, l1.length_eq, Array.length_toList, h0]
    · right
      have heL : e ∈ L := l1.mem_iff.2 he
      obtain ⟨i, hi⟩ := List.getElem?_of_mem heL
      have hil := (List.getElem?_eq_some_iff.1 hi).1
      have hic : i < c.tail.length := by omega
      have hees : e ∈ es.toList := by
        unfold leftOf at he
        simp at he ⊢; exact he.1
      obtain ⟨r1, r2⟩ := l3 i c.tail[i] e (List.getElem?_eq_getElem hic) hi
      have hrel1 : Rel' P w0 M N F ρ st a w1 := by
        rcases hw1 with rfl | rfl
        · exact hr
        · exact hr.drew
      have hh1 : ∀ g : Nat, w1.heap[g]? = w.heap[g]? := by rcases hw1 with rfl | rfl <;> (intro g; rfl)
      have hsz : w1.heap.size = w.heap.size := by rcases hw1 with rfl | rfl <;> rfl
      have hit1 : w1.heap[it]? = some (.mapIter (some m) since seen since) := (hh1 it).trans h1
      have hset := heap_set (o' := .mapIter (some m) since (seen.push e.born) since) hit1
      have hnF : ∀ g, F g → ¬ g = it := fun g hF hg => by subst hg; exact hr.mem.own b _ _ hp0 hρ rfl hF
      have hw' : ∀ g, F g → (ChangeMaps.setBlock w1 it (.mapIter (some m) since (seen.push e.born) since)).heap[g]? = w.heap[g]? := fun g hF => (hset.2 g (hnF g hF)).trans (hh1 g)
      refine ⟨i, c.tail[i], e.key, e.val, _, List.getElem?_eq_getElem hic, hrun, ?_, ?_, ?_⟩
      · obtain ⟨cs, p1, p2⟩ := r1; exact ⟨cs, p1.mono (fun _ h => h) hw', p2⟩
      · obtain ⟨cs, p1, p2⟩ := r2; exact ⟨cs, p1.mono (fun _ h => h) hw', p2⟩
      · -- the walk is one entry further
        have hd0 := hrel1.dropA b
        have hv0 : st.v b = none := by
          cases hx : st.v b with
          | none => rfl
          | some x =>
            exfalso
            obtain ⟨g, arr, h1', h1b, _⟩ := hr.mem.var b x.1 x.2 hx
            rw [hρ] at h1'; injection h1' with h1'; injection h1' with h1'; injection h1' with h1'; injection h1' with h1'; subst h1'
            rw [h1] at h1b; cases h1b
        have hpr : ∀ b', (st.put (.a b none)).present b' → b' ≠ b ∧ st.present b' := by
          intro b' hp
          by_cases e : b' = b
          · subst e
            exfalso
            rcases hp with hp | hp
            · exact hp hv0
            · refine hp ?_
              show (bif Nat.beq b' b' then none else st.a b') = none
              simp
          · refine ⟨e, ?_⟩
            rcases hp with hp | hp
            · exact .inl hp
            · refine .inr ?_
              have hp' : (bif Nat.beq b' b then none else st.a b') ≠ none := hp
              rw [bq e] at hp'; exact hp'
        have hfr : Fr w1 (fun g => g = it) (ChangeMaps.setBlock w1 it (.mapIter (some m) since (seen.push e.born) since)) :=
          ⟨rfl, rfl, rfl, by simp [ChangeMaps.setBlock], fun g _ hg => hset.2 g hg⟩
        have hdis : ∀ b' v g, (st.put (.a b none)).present b' → ρ b' = some v → blkOf v = some g → ¬ g = it := by
          intro b' v g hp hv hg hgr
          subst hgr
          obtain ⟨hne, hp'⟩ := hpr b' hp
          exact hne (hr.mem.sep b' b v _ _ hp' hp0 hv hρ hg rfl)
        have h1r := hd0.move (F' := F) hfr hdis hnF (fun _ h => h) (fun _ h => .inl h) (fun g hg => Nat.lt_of_lt_of_le (hrel1.mem.fb g hg) hfr.size) (fun g hg hlt' => (hr.lo b _ g hp0 hρ (by subst hg; rfl)).resolve_right (by omega))
        have hob : ObOk F (ChangeMaps.setBlock w1 it (.mapIter (some m) since (seen.push e.born) since)) (.iter true k v (c.tail[i] :: c.tail.eraseIdx i)) (.pointer (some ⟨it, 0, none⟩)) := by
          refine ⟨it, some m, since, seen.push e.born, since, rfl, hset.1, .inr ⟨m, es, since, rfl, hFm, (hw' m hFm).trans hm, hst, rfl, rfl, ⟨L.eraseIdx i, ?_, ?_, fun q y z hy hz => ?_⟩, fun s hs => ?_⟩, fun _ => ⟨by simp, by simp⟩⟩
          · have hL : L = L.take i ++ e :: L.drop (i + 1) := by
              have := (List.getElem?_eq_some_iff.1 hi).2
              rw [← this, ← List.drop_eq_getElem_cons hil, List.take_append_drop]
            have hfil : (leftOf es (seen.push e.born)).toList = (leftOf es seen).toList.filter (fun z => !(z.born == e.born)) := by
              unfold leftOf
              rw [Array.toList_filter, Array.toList_filter, List.filter_filter]
              congr 1
              funext z
              simp [Array.contains_push, Bool.and_comm]
              rfl
            rw [hfil]
            refine List.Perm.trans ?_ (l1.filter _)
            rw [List.eraseIdx_eq_take_drop_succ]
            have hnb : (L.map (·.born)).Nodup := by
              have h5 : ((leftOf es seen).toList.map (·.born)).Nodup := by
                unfold leftOf
                rw [Array.toList_filter]
                exact hst.2.1.sublist (List.filter_sublist.map _)
              exact (l1.map _).nodup_iff.2 h5
            conv => rhs; rw [hL]
            rw [List.filter_append, List.filter_cons]
            simp only [beq_self_eq_true, Bool.not_true]
            have hd : ∀ z ∈ L.take i ++ L.drop (i + 1), (!(z.born == e.born)) = true := by
              intro z hz
              have h6 : (L.map (·.born)) = (L.take i).map (·.born) ++ e.born :: (L.drop (i + 1)).map (·.born) := by
                conv => lhs; rw [hL]
                simp
              rw [h6] at hnb
              have h7 := List.nodup_append.1 hnb
              have h8 := List.nodup_cons.1 h7.2.1
              have hne : z.born ≠ e.born := by
                rcases List.mem_append.1 hz with hz | hz
                · exact h7.2.2 _ (List.mem_map_of_mem hz) _ (by simp)
                · intro heq
                  exact h8.1 (by rw [← heq]; exact List.mem_map_of_mem hz)
              simpa using hne
            rw [List.filter_eq_self.2 (fun z hz => hd z (List.mem_append.2 (.inl hz))), List.filter_eq_self.2 (fun z hz => hd z (List.mem_append.2 (.inr hz)))]
            simp
          · rw [List.tail_cons, List.length_eraseIdx, List.length_eraseIdx, if_pos hil, if_pos hic, l2]
          · rw [List.tail_cons] at hy
            rw [List.getElem?_eraseIdx] at hy hz
            have hboth : ∃ q' : Nat, c.tail[q']? = some y ∧ L[q']? = some z := by
              by_cases hq : q < i
              · rw [if_pos hq] at hy hz; exact ⟨q, hy, hz⟩
              · rw [if_neg hq] at hy hz; exact ⟨q + 1, hy, hz⟩
            obtain ⟨q', hy', hz'⟩ := hboth
            obtain ⟨⟨c1, p1, p2⟩, ⟨c2, s1, s2⟩⟩ := l3 q' y z hy' hz'
            exact ⟨⟨c1, p1.mono (fun _ h => h) hw', p2⟩, ⟨c2, s1.mono (fun _ h => h) hw', s2⟩⟩
          · rw [Array.back?_push] at hs; injection hs with hs
            obtain ⟨c1, p1, p2⟩ := r1
            obtain ⟨c2, s1, s2⟩ := r2
            exact ⟨e, hees, hs, _, rfl, ⟨c1, p1.mono (fun _ h => h) hw', p2⟩, ⟨c2, s1.mono (fun _ h => h) hw', s2⟩⟩
        have h2r := h1r.addA (b := b) (A := .iter true k v (c.tail[i] :: c.tail.eraseIdx i)) hρ hv0 hob (fun g hg => ⟨fun b' v hne hp hv' hbk => by
            obtain ⟨_, hp'⟩ := hpr b' hp
            exact hne (hr.mem.sep b' b v _ g hp' hp0 hv' hρ hbk hg), fun hF => hr.mem.own b _ g hp0 hρ hg hF, hr.lo b _ g hp0 hρ hg⟩)
        have ee : (st.put (.a b none)).put (.a b (some (.iter true k v (c.tail[i] :: c.tail.eraseIdx i)))) = st.put (.a b (some (.iter true k v (c.tail[i] :: c.tail.eraseIdx i)))) := by
          show ({ st with a := _ } : St) = { st with a := _ }
          congr 1
          funext x
          show (bif Nat.beq x b then _ else bif Nat.beq x b then none else st.a x) = bif Nat.beq x b then _ else st.a x
          cases Nat.beq x b <;> rfl
        rwa [ee] at h2r

/-! ### Bytes as a string -/
def toBytes (l : List Int) : List UInt8 := l.map fun n => UInt8.ofNat n.toNat
def evBytes (Γ : List TI) (st : St) (src dst : TypeId) (x : Operand) : Option VR :=
  match look Γ src, look Γ dst with
  | some i, some j => match i.desc, j.desc with
    | .slice e, .string => match look Γ e with
      | some q => match q.desc with
        | .int .u8 => match st.ev x with
          | .v (.sl (.int .u8)) l => some ⟨true, opKeys x, .v .str (toBytes l)⟩
          | _ => none
        | _ => none
      | none => none
    | _, _ => none
  | _, _ => none
theorem foldl_bytes : ∀ (l : List Int) (s : ByteArray), (l.foldl (fun r n => r.push (UInt8.ofNat n.toNat)) s).data.toList = s.data.toList ++ toBytes l
  | [], s => by simp [toBytes]
  | n :: l, s => by
    rw [List.foldl_cons, foldl_bytes l]
    simp [toBytes, ByteArray.push]
theorem run_bytes {src dst e : TypeId} (hu : P.underlying src = some (.slice e)) (hw : P.underlying e = some (.int .u8)) (hv : P.underlying dst = some .string) {l : List Int} {u : Value} (h : RdV F w (.sl (.int .u8)) l u) :
    ∃ b : ByteArray, b.data.toList = toBytes l ∧ (convert src dst u).run P w = .ok (.string b) w := by
  obtain ⟨cs, ⟨ad, cap, rfl, hc⟩, rfl⟩ := h
  cases ad with
  | none =>
    have hl : l = [] := hc
    subst hl
    exact ⟨ByteArray.empty, rfl, run_convert_bytes_nil w src e hu hw _ _ dst hv⟩
  | some a0 =>
    obtain ⟨_, _, _, h4⟩ := hc
    have hl : (loadCells a0 l.length).run P w = .ok (l.map (Value.int .u8)).toArray w := by
      have := run_loadCells_list (P := P) w a0 (l.map (Value.int .u8)) (fun j v hj => by
        have hjl : j < l.length := by have := (List.getElem?_eq_some_iff.1 hj).1; simpa using this
        have hlj : l[j]? = some l[j] := List.getElem?_eq_getElem hjl
        rw [List.getElem?_map, hlj] at hj
        simp only [Option.map_some, Option.some.injEq] at hj
        obtain ⟨es, e1, e2⟩ := h4 j l[j] hlj
        have e1' : es = [.int .u8 l[j]] := e1
        subst e1'
        have h9 := e2 0 _ rfl
        rw [← hj]
        have e3 : j * (Ty.int .u8).size + 0 = j := by simp [Ty.size]
        rw [e3] at h9
        exact h9)
      simpa using this
    refine ⟨_, ?_, (run_convert_bytes_string w src dst e _ _ _ hu hw hv).trans (run_bytesToString w a0 _ _ l hl)⟩
    rw [foldl_bytes]; rfl
theorem evBytes_ok (hΓ : Tys P Γ) {src dst : TypeId} {x : Operand} {r : VR} (h : evBytes Γ st src dst x = some r) : VOk P w0 M N st (.convert src dst x) rty r := by
  unfold evBytes at h
  split at h
  · rename_i i j hi hj
    obtain ⟨hi1, hi2⟩ := look_ok hΓ hi
    obtain ⟨hj1, hj2⟩ := look_ok hΓ hj
    have hu := hi1.und
    have hv := hj1.und
    rw [hi2] at hu
    rw [hj2] at hv
    split at h
    · rename_i e d1 d2
      split at h
      · rename_i q hq
        obtain ⟨hq1, hq2⟩ := look_ok hΓ hq
        have hw := hq1.und
        rw [hq2] at hw
        split at h
        · rename_i d3
          split at h
          · rename_i l hx
            injection h with h; subst h
            rw [d1] at hu
            rw [d2] at hv
            rw [d3] at hw
            intro st' hag F ρ a w hr dst' pos af gd
            have hxd := hr.evx hag (fun _ h => h) (x := x)
            rw [hx] at hxd
            generalize he : a.eval x = u at hxd
            cases hxd with
            | v hd =>
              obtain ⟨b, hb, hrun⟩ := run_bytes (dst := dst) hu hw hv hd
              refine ⟨.string b, ?_, .v ⟨[.string b], ?_, rfl⟩⟩
              · simp only [execOp, he, hrun, Sem.run_bind, Sem.run_pure, Result.andThen_ok]
              · show [Value.string b] = [Value.string ⟨⟨toBytes l⟩⟩]
                rw [← hb]
          · cases h
        · cases h
      · cases h
    · cases h
  · cases h

/-- An operation of this part. -/
def evWalkV (Γ : List TI) (st : St) : Op → Option VR
  | .lookup t x ix ok => evLookupR Γ st t x ix ok
  | .entry x => evEntry st x
  | .convert s d x => evBytes Γ st s d x
  | _ => none
theorem evWalkV_ok (hΓ : Tys P Γ) {op : Op} {r : VR} (h : evWalkV Γ st op = some r) : VOk P w0 M N st op rty r := by
  unfold evWalkV at h
  split at h
  · exact evLookupR_ok hΓ h
  · exact evEntry_ok h
  · exact evBytes_ok hΓ h
  · cases h
def evWalkM (Γ : List TI) (st : St) (N : Nat) (dst : Option Nat) : Op → Option MR
  | .range t x => match dst with
    | some d => evRange Γ st N d t x
    | none => none
  | op => evMapM Γ st N dst op
theorem evWalkM_ok (hΓ : Tys P Γ) {dst : Option Nat} {op : Op} {r : MR} (h : evWalkM Γ st N dst op = some r) : MOk P w0 M N F0 ops st dst op rty r := by
  unfold evWalkM at h
  split at h
  · split at h
    · exact evRange_ok hΓ h
    · cases h
  · exact evMapM_ok hΓ h
end
end Go.Sq
