/- The second engine, part NE: own arrays whose elements own rows. No condition. -/
import Derived.Test.YtikmdoopfpnbbaaSqW
namespace Go.Sq
open Go Go.RowKit
section
variable {P : Program} {w0 : World} {M : Mod} {N : Nat} {F0 : Nat → Prop} {ops : Array Oper} {st : St} {Γ : List TI} {rty : TypeId}
variable {F : Nat → Prop} {ρ : Env} {a : Act} {w : World}
def RdX.ok : Ty → Nat → Bool
 | .sl _, o => Nat.beq o 0
 | .pair a b, o => bif Nat.blt o a.size then RdX.ok a o else RdX.ok b (o - a.size)
 | _, _ => false
theorem RdX.row {Q : (r : Ty) → List r.den → Value → Prop} {r : Ty} {rows : List r.den} : ∀ {e : Ty} {o : Nat} {x : e.den} {es : List Value}, RdX F w Q e o x es → sub e x o (.sl r) = some rows → ∃ v, es[o]? = some v ∧ v.oneCell' = true ∧ Q r rows v := by
 intro e
 induction e with
 | sl r' =>
  intro o x es h hs
  obtain ⟨rfl, v, rfl, h1, h2⟩ := h
  simp only [sub] at hs
  split at hs
  ·rename_i hh
   obtain ⟨_, hh⟩ := hh
   injection hh with hh; subst hh
   injection hs with hs; subst hs
   exact ⟨v, rfl, h1, h2⟩
  ·cases hs
 | pair p q ihp ihq =>
  intro o x es h hs
  simp only [sub] at hs
  rw [dif_neg (fun hh => by cases hh.2)] at hs
  obtain ⟨c1, c2, rfl, h | h⟩ := h
  ·rw [show Nat.blt o p.size = true by rw [Nat.blt_eq]; exact h.1] at hs
   obtain ⟨v, a1, a2⟩ := ihp h.2.1 hs
   exact ⟨v, by rw [List.getElem?_append_left (by rw [h.2.1.size.1]; exact h.1)]; exact a1, a2⟩
  ·rw [show Nat.blt o p.size = false by rw [← Bool.not_eq_true, Nat.blt_eq]; omega] at hs
   obtain ⟨v, a1, a2⟩ := ihq h.2.2 hs
   exact ⟨v, by rw [List.getElem?_append_right (by rw [h.2.1.size]; exact h.1), h.2.1.size]; exact a1, a2⟩
 | _ => intro o x es h; exact h.elim
theorem RdX.one {Q Q' : (r : Ty) → List r.den → Value → Prop} : ∀ {e : Ty} {o : Nat} {x : e.den} {es : List Value}, RdX F w Q e o x es → (∀ (r : Ty) (l : List r.den) (v : Value), es[o]? = some v → Q r l v → Q' r l v) → RdX F w Q' e o x es := by
 intro e
 induction e with
 | sl r => intro o x es h hq; obtain ⟨rfl, v, rfl, h1, h2⟩ := h; exact ⟨rfl, v, rfl, h1, hq r x v rfl h2⟩
 | pair p q ihp ihq =>
  intro o x es h hq
  obtain ⟨c1, c2, rfl, h | h⟩ := h
  ·exact ⟨c1, c2, rfl, .inl ⟨h.1, ihp h.2.1 (fun r l v hv => hq r l v (by rw [List.getElem?_append_left (by rw [h.2.1.size.1]; exact h.1)]; exact hv)), h.2.2⟩⟩
  ·exact ⟨c1, c2, rfl, .inr ⟨h.1, h.2.1, ihq h.2.2 (fun r l v hv => hq r l v (by rw [List.getElem?_append_right (by rw [h.2.1.size]; exact h.1), h.2.1.size]; exact hv))⟩⟩
 | _ => intro o x es h; exact h.elim
theorem RdX.q {Q : (r : Ty) → List r.den → Value → Prop} : ∀ {e : Ty} {o : Nat} {x : e.den} {es : List Value}, RdX F w Q e o x es → ∃ (r : Ty) (l : List r.den) (v : Value), es[o]? = some v ∧ Q r l v := by
 intro e
 induction e with
 | sl r => intro o x es h; obtain ⟨rfl, v, rfl, h1, h2⟩ := h; exact ⟨r, x, v, rfl, h2⟩
 | pair p q ihp ihq =>
  intro o x es h
  obtain ⟨c1, c2, rfl, h | h⟩ := h
  ·obtain ⟨r, l, v, a1, a2⟩ := ihp h.2.1
   exact ⟨r, l, v, by rw [List.getElem?_append_left (by rw [h.2.1.size.1]; exact h.1)]; exact a1, a2⟩
  ·obtain ⟨r, l, v, a1, a2⟩ := ihq h.2.2
   exact ⟨r, l, v, by rw [List.getElem?_append_right (by rw [h.2.1.size]; exact h.1), h.2.1.size]; exact a1, a2⟩
 | _ => intro o x es h; exact h.elim
theorem RdX.upd {Q Q' : (r : Ty) → List r.den → Value → Prop} {r : Ty} {rows : List r.den} {v : Value} (hv : v.oneCell' = true) (hQ : Q' r rows v) : ∀ {e : Ty} {o : Nat} {x z : e.den} {es : List Value}, RdX F w Q e o x es → Sq.upd e x o (.sl r) rows = some z →
  RdX F w Q' e o z (es.take o ++ [v] ++ es.drop (o + 1)) := by
 intro e
 induction e with
 | sl r' =>
  intro o x z es h hs
  obtain ⟨rfl, v', rfl, h1, h2⟩ := h
  simp only [Sq.upd] at hs
  split at hs
  ·rename_i hh
   obtain ⟨_, hh⟩ := hh
   injection hh with hh; subst hh
   injection hs with hs; subst hs
   exact ⟨rfl, v, by simp, hv, hQ⟩
  ·cases hs
 | pair p q ihp ihq =>
  intro o x z es h hs
  simp only [Sq.upd] at hs
  rw [dif_neg (fun hh => by cases hh.2)] at hs
  obtain ⟨c1, c2, rfl, h | h⟩ := h
  ·rw [show Nat.blt o p.size = true by rw [Nat.blt_eq]; exact h.1] at hs
   simp only [cond_true] at hs
   split at hs
   ·rename_i z' hz
    injection hs with hs; subst hs
    have a1 := ihp h.2.1 hz
    have hl := h.2.1.size
    refine ⟨_, c2, ?_, .inl ⟨h.1, a1, h.2.2⟩⟩
    rw [List.take_append_of_le_length (by omega), List.drop_append_of_le_length (by omega)]
    simp
   ·cases hs
  ·rw [show Nat.blt o p.size = false by rw [← Bool.not_eq_true, Nat.blt_eq]; omega] at hs
   simp only [cond_false] at hs
   split at hs
   ·rename_i z' hz
    injection hs with hs; subst hs
    have a1 := ihq h.2.2 hz
    have hl := h.2.1.size
    refine ⟨c1, _, ?_, .inr ⟨h.1, h.2.1, a1⟩⟩
    have e1 : (c1 ++ c2).take o = c1 ++ c2.take (o - p.size) := by rw [List.take_append, List.take_of_length_le (by omega), hl]
    have e2 : (c1 ++ c2).drop (o + 1) = c2.drop (o - p.size + 1) := by rw [List.drop_append, List.drop_of_length_le (by omega), List.nil_append]; congr 1; omega
    rw [e1, e2]; simp
   ·cases hs
 | _ => intro o x z es h; exact h.elim
theorem RdX.rd {F' : Nat → Prop} {Q : (r : Ty) → List r.den → Value → Prop} (hF : ∀ g, F g → F' g) (hQ : ∀ (r : Ty) (l : List r.den) (v : Value), v.oneCell' = true → Q r l v → RdC F' w (.sl r) l [v]) : ∀ {e : Ty} {o : Nat} {x : e.den} {es : List Value}, RdX F w Q e o x es → RdC F' w e x es := by
 intro e
 induction e with
 | sl r => intro o x es h; obtain ⟨_, v, rfl, h1, h2⟩ := h; exact hQ r x v h1 h2
 | pair p q ihp ihq =>
  intro o x es h
  obtain ⟨c1, c2, rfl, h | h⟩ := h
  ·exact ⟨c1, c2, rfl, ihp h.2.1, h.2.2.mono hF (fun _ _ => rfl)⟩
  ·exact ⟨c1, c2, rfl, h.2.1.mono hF (fun _ _ => rfl), ihq h.2.2⟩
 | _ => intro o x es h; exact h.elim
theorem RdC.toX {Q : (r : Ty) → List r.den → Value → Prop} {r : Ty} {rows : List r.den} : ∀ {e : Ty} {o : Nat} {x : e.den} {es : List Value}, RdC F w e x es → sub e x o (.sl r) = some rows → RdX.ok e o = true → (∀ v, es[o]? = some v → v.oneCell' = true → Q r rows v) → RdX F w Q e o x es := by
 intro e
 induction e with
 | sl r' =>
  intro o x es h hs _ hq
  obtain ⟨v, rfl⟩ := List.length_eq_one_iff.1 h.size
  simp only [sub] at hs
  split at hs
  ·rename_i hh
   obtain ⟨rfl, hh⟩ := hh
   injection hh with hh; subst hh
   injection hs with hs; subst hs
   exact ⟨rfl, v, rfl, h.one v (by simp), hq v rfl (h.one v (by simp))⟩
  ·cases hs
 | pair p q ihp ihq =>
  intro o x es h hs hk hq
  simp only [sub] at hs
  rw [dif_neg (fun hh => by cases hh.2)] at hs
  obtain ⟨c1, c2, rfl, h1, h2⟩ := h
  have hl := h1.size
  simp only [RdX.ok] at hk
  cases hb : Nat.blt o p.size with
  | true =>
   rw [hb] at hs hk
   rw [Nat.blt_eq] at hb
   exact ⟨c1, c2, rfl, .inl ⟨hb, ihp h1 hs hk (fun v hv h1 => hq v (by rw [List.getElem?_append_left (by omega)]; exact hv) h1), h2⟩⟩
  | false =>
   rw [hb] at hs hk
   have hge : p.size ≤ o := by rw [← Bool.not_eq_true, Nat.blt_eq] at hb; omega
   exact ⟨c1, c2, rfl, .inr ⟨hge, h1, ihq h2 hs hk (fun v hv h1 => hq v (by rw [List.getElem?_append_right (by omega), hl]; exact hv) h1)⟩⟩
 | _ => intro o x es h hs hk; cases hk
theorem qob (h : MemOk P F w ρ st) {b : Nat} {ty te : TypeId} {e : Ty} {o : Nat} {l : List e.den} {hh : Option Nat} (hA : st.a b = some (.nest ty e o te l hh)) {g n cap : Nat} (hρ : ρ b = some (.slice (some ⟨g, 0, none⟩) n cap)) {i : Nat} (hi : i < n) :
  l.length = n ∧ ∃ es, RdX F w (fun r y v => hh ≠ some i → RowOk F (ρ.k b) w te r y v) e o (l.getD i e.dflt) es ∧ ∀ j u, es[j]? = some u → w.cell? ⟨g, i * e.size + j, none⟩ = some u := by
 obtain ⟨u, h1, xs, h2, h3, _⟩ := h.arr b _ hA
 rw [hρ] at h1; injection h1 with h1; subst h1
 obtain ⟨h4, h5⟩ := h2
 rcases h5 with ⟨ad, h5, _⟩ | ⟨g', cap', cur, h5, h7, h8, h9, h10, h11⟩
 ·injection h5 with _ h5 _; omega
 ·injection h5 with e1 e2 e3
  injection e1 with e1; injection e1 with e1; subst e1 e2 e3
  have hx : l[i]? = some (l.getD i e.dflt) := by rw [List.getD_eq_getElem?_getD, List.getElem?_eq_getElem hi]; rfl
  refine ⟨rfl, _, h3 i _ hx, fun j u hj => ?_⟩
  rw [List.getElem?_take] at hj
  split at hj
  ·rename_i hje
   rw [List.getElem?_drop, ← h11, List.getElem?_take] at hj
   split at hj
   ·rw [cell_of_row w g _ cur ty (0, 0) h7]; simpa using hj
   ·cases hj
  ·cases hj
theorem Rel'.setOb {b : Nat} {A A' : Ob} {u : Value} {K : Nat → Prop} (h : Rel' P w0 M N F ρ st a w) (hA : st.a b = some A) (hρ : ρ b = some u) (hob : ObOk F w K A' u) (hK : ∀ g, K g → ρ.k b g) : Rel' P w0 M N F (ρ.setK b K) (st.put (.a b (some A'))) a w := by
 have ha : ∀ x, (st.put (.a b (some A'))).a x = if x = b then some A' else st.a x := by
  intro x
  show (bif Nat.beq x b then _ else st.a x) = _
  by_cases e : x = b
  ·subst e; simp
  ·rw [bq e, if_neg e]; rfl
 have hp : ∀ x, (st.put (.a b (some A'))).present x → st.present x := by
  rintro x (hx | hx)
  ·exact .inl hx
  ·rw [ha] at hx
   by_cases e : x = b
   ·subst e; exact .inr (by rw [hA]; simp)
   ·rw [if_neg e] at hx; exact .inr hx
 have hk : ∀ x g, (ρ.setK b K).k x g → ρ.k x g := by
  intro x g hx
  have hx' : (if x = b then K else ρ.k x) g := hx
  by_cases e : x = b
  ·subst e; rw [if_pos rfl] at hx'; exact hK g hx'
  ·rw [if_neg e] at hx'; exact hx'
 have up : ∀ {s v}, Den P F w ρ s v → Den P F w (ρ.setK b K) s v := fun hd => hd.mono (fun _ h => h) (fun _ _ => rfl) _ (fun _ _ h => h)
 refine ⟨h.fr, ⟨h.mem.dom, fun b' ty k hv => ?_, fun x B hx => ?_, fun b1 b2 v1 v2 g p1 p2 => h.mem.sep b1 b2 v1 v2 g (hp _ p1) (hp _ p2), fun b1 v1 g p1 => h.mem.own b1 v1 g (hp _ p1), h.mem.fb, h.mem.one, h.mem.glob, fun x g hx => h.mem.kap.k1 x g (hk x g hx), fun b1 b2 v g hx p => h.mem.kap.k2 b1 b2 v g (hk _ _ hx) (hp _ p), fun b1 b2 g h1 h2 => h.mem.kap.k3 b1 b2 g (hk _ _ h1) (hk _ _ h2), fun x g hd hx => h.mem.kap.k4 x g hd (hk x g hx)⟩,
  fun b1 v1 g p1 => h.lo b1 v1 g (hp _ p1), fun t => up (h.regs t), h.sz, h.df, h.pin, fun x g hx => h.lok x g (hk x g hx)⟩
 ·obtain ⟨g, arr, q1, q2, q3, q4⟩ := h.mem.var b' ty k hv
  exact ⟨g, arr, q1, q2, q3, fun j x hj => ⟨up (q4 j x hj).1, (q4 j x hj).2⟩⟩
 ·rw [ha] at hx
  by_cases e : x = b
  ·subst e
   rw [if_pos rfl] at hx; injection hx with hx; subst hx
   refine ⟨u, hρ, ?_⟩
   show ObOk F w (if x = x then K else ρ.k x) A' u
   rw [if_pos rfl]; exact hob
  ·rw [if_neg e] at hx
   obtain ⟨v, q1, q2⟩ := h.mem.arr x B hx
   refine ⟨v, q1, ?_⟩
   show ObOk F w (if x = b then K else ρ.k x) B v
   rw [if_neg e]; exact q2
theorem Rel'.loadRow {b n' d g n cap i : Nat} {ty te : TypeId} {e r : Ty} {o : Nat} {l : List e.den} {rows : List r.den} (h : Rel' P w0 M N F ρ st a w) (hA : st.a b = some (.nest ty e o te l none)) (hρ : ρ b = some (.slice (some ⟨g, 0, none⟩) n cap)) (hi : i < n)
  (hs : sub e (l.getD i e.dflt) o (.sl r) = some rows) (hn : st.d n' = false) (hd : d < N) :
  ∃ v ρ', w.cell? ⟨g, i * e.size + o, none⟩ = some v ∧ Rel' P w0 M N F ρ' (st.app [.a b (some (.nest ty e o te l (some i))), .d n', .a n' (some (.arr te r rows)), .r d (.own n')]) (a.put (some d) v) w := by
 obtain ⟨hl, es, e1, e2⟩ := qob h.mem hA hρ hi
 obtain ⟨v, v1, v2, v3⟩ := e1.row hs
 obtain ⟨⟨xs, x1, x2⟩, x3⟩ := v3 (by simp)
 have hc := e2 o v v1
 obtain ⟨u, u1, ys, y1, y2, y3⟩ := h.mem.arr b _ hA
 rw [hρ] at u1; injection u1 with u1; subst u1
 have hob : ObOk F w (fun g' => ρ.k b g' ∧ blkOf v ≠ some g') (.nest ty e o te l (some i)) (.slice (some ⟨g, 0, none⟩) n cap) := by
  refine ⟨ys, y1, fun j x hj => ?_, fun j j' u u' g' h1 h2 => y3 j j' u u' g' (by simp) (by simp)⟩
  have hrd := y2 j x hj
  -- the row of another element lies elsewhere
  have hjl : j < l.length := (List.getElem?_eq_some_iff.1 hj).1
  have hchunk : ∀ (q : Nat) (z : Value), q < l.length → ((ys.drop (q * e.size)).take e.size)[o]? = some z → ys[q * e.size + o]? = some z := by
   intro q z _ hz
   rw [List.getElem?_take] at hz
   split at hz
   ·rw [List.getElem?_drop] at hz; exact hz
   ·cases hz
  have hiv : ys[i * e.size + o]? = some v := by
   rcases y1.2 with ⟨_, h5, _⟩ | ⟨g', cap', cur, h5, h7, h8, h9, h10, h11⟩
   ·injection h5 with _ h5 _; omega
   ·injection h5 with q1 q2 q3
    injection q1 with q1; injection q1 with q1; subst q1
    have hsz := e1.size
    have hrow : i * e.size + e.size ≤ l.length * e.size := by
     have := Nat.mul_le_mul_right e.size (show i + 1 ≤ l.length by omega)
     rwa [Nat.add_mul, Nat.one_mul] at this
    rw [← h11, List.getElem?_take, if_pos (by omega)]
    rw [cell_of_row w g _ cur ty (0, 0) h7] at hc
    simpa using hc
  refine RdX.one (Q := fun r y v => none ≠ some j → RowOk F (ρ.k b) w te r y v) hrd fun r' y' v' hv' hq hne => ?_
  obtain ⟨q1, q2⟩ := hq (by simp)
  refine ⟨q1, fun g' hg' => ⟨q2 g' hg', fun hvg => hne ?_⟩⟩
  have := y3 i j v v' g' (by simp) (by simp) hiv (hchunk j v' hjl hv') hvg hg'
  rw [this]
 have h1 := h.setOb hA hρ hob (fun g' hg' => hg'.1)
 have h2 := h1.name (b := n') (u := v) hn v2
 have hset : ((ρ.setK b fun g' => ρ.k b g' ∧ blkOf v ≠ some g').set n' v) n' = some v := by rw [Env.set_at]; rw [if_pos rfl]
 have hpr : ∀ b', ((st.put (.a b (some (.nest ty e o te l (some i))))).put (.d n')).present b' → st.present b' := by
  rintro b' (hp | hp)
  ·exact .inl hp
  ·by_cases e0 : b' = b
   ·subst e0; exact .inr (by rw [hA]; simp)
   ·refine .inr ?_
    have hp' : (bif Nat.beq b' b then some (Ob.nest ty e o te l (some i)) else st.a b') ≠ none := hp
    rw [bq e0] at hp'; exact hp'
 have h3 := h2.addA (b := n') (A := .arr te r rows) (u := v) hset (h.mem.absent hn).1 ⟨xs, x1, x2⟩ (fun g' hg' => ⟨fun b' v' hne hp hv' => by
   have hv2 : ρ b' = some v' := by rw [Env.set_at] at hv'; rwa [if_neg hne] at hv'
   exact h.mem.kap.k2 b b' v' g' (x3 g' hg') (hpr b' hp) hv2, (h.mem.kap.k1 b g' (x3 g' hg')).2, h.lok b g' (x3 g' hg')⟩) (fun g' hg' b' hk => by
   have hk' : (if b' = b then (fun g' => ρ.k b g' ∧ blkOf v ≠ some g') else ρ.k b') g' := hk
   by_cases e0 : b' = b
   ·rw [if_pos e0] at hk'; exact hk'.2 hg'
   ·rw [if_neg e0] at hk'; exact e0 (h.mem.kap.k3 b' b g' hk' (x3 g' hg')))
 exact ⟨v, _, hc, h3.setR hd (.own hset)⟩
theorem qqv {ty : TypeId} {k n i o g cap : Nat} {xs ds : List Value} (h : OwnR w ty k (.slice (some ⟨g, 0, none⟩) n cap) n xs) (hi : i < n) (ho : o + ds.length ≤ k) (h1 : ∀ v ∈ ds, v.oneCell' = true) :
  ∃ w', (Go.storeCells ⟨g, i * k + o, none⟩ ds).run P w = .ok () w' ∧ Fr w (fun g' => g' = g) w' ∧ OwnR w' ty k (.slice (some ⟨g, 0, none⟩) n cap) n (xs.take (i * k + o) ++ ds ++ xs.drop (i * k + o + ds.length)) ∧ blkOf (.slice (some ⟨g, 0, none⟩) n cap) = some g := by
 obtain ⟨hl, h⟩ := h
 rcases h with ⟨_, h3, _⟩ | ⟨g', cap', cur, h3, h6, h7, h8, h9, h10⟩
 ·injection h3 with _ h3 _; omega
 ·injection h3 with e1 e2 e3
  injection e1 with e1; injection e1 with e1; subst e1
  have hrow : i * k + k ≤ n * k := by
   have := Nat.mul_le_mul_right k (show i + 1 ≤ n from hi)
   rwa [Nat.add_mul, Nat.one_mul] at this
  have hcap : n * k ≤ (cap' + 1) * k := Nat.mul_le_mul_right _ h7
  have hfit : i * k + o + 0 + ds.length ≤ cur.size := by omega
  have hst := run_storeCells_at P g (i * k + o) ty ds 0 cur w h6 hfit (fun v hv => h1 v hv)
  simp only [Nat.add_zero] at hst
  refine ⟨_, hst, ⟨rfl, rfl, rfl, by simp, fun g' _ hne => setRow_other w g g' _ hne⟩, ⟨by simp only [List.length_append, List.length_take, List.length_drop]; omega, .inr ⟨g, cap', _, by rw [e3], setRow_heap w g cur _ ty (0, 0) h6, h7, h8, ?_, ?_⟩⟩, by rw [e3]; rfl⟩
  ·simp only [List.size_toArray, List.length_append, List.length_take, List.length_drop, Array.length_toList]; omega
  ·have hcl : cur.toList.length = (cap' + 1) * k := by simpa using h9
   apply List.ext_getElem?
   intro q
   have e1 := qah cur.toList (i * k + o) ds (by omega) q
   have e2 := qah xs (i * k + o) ds (by omega) q
   by_cases hq : q < n * k
   ·rw [List.getElem?_take, if_pos hq, e1, e2, ← h10, List.getElem?_take, if_pos hq]
   ·rw [List.getElem?_take, if_neg hq, List.getElem?_eq_none]
    simp only [List.length_append, List.length_take, List.length_drop]; omega
theorem qoc {k i o : Nat} {xs ds : List Value} (ho : o + ds.length ≤ k) (hfit : i * k + k ≤ xs.length) (j : Nat) : ((xs.take (i * k + o) ++ ds ++ xs.drop (i * k + o + ds.length)).drop (j * k)).take k = if j = i then ((xs.drop (j * k)).take k).take o ++ ds ++ ((xs.drop (j * k)).take k).drop (o + ds.length) else (xs.drop (j * k)).take k := by
 apply List.ext_getElem?
 intro q
 have e2 := qah xs (i * k + o) ds (by omega) (j * k + q)
 by_cases hq : q < k
 ·rw [List.getElem?_take, if_pos hq, List.getElem?_drop, e2]
  by_cases hj : j = i
  ·subst hj
   rw [if_pos rfl, qah _ _ _ (by simp; omega) q, List.getElem?_take, if_pos hq, List.getElem?_drop]
   by_cases q1 : q < o
   ·rw [if_pos q1, if_pos (by omega)]
   ·rw [if_neg q1, if_neg (by omega)]
    by_cases q2 : q < o + ds.length
    ·rw [if_pos q2, if_pos (by omega)]; congr 1; omega
    ·rw [if_neg q2, if_neg (by omega)]
  ·rw [if_neg hj, List.getElem?_take, if_pos hq, List.getElem?_drop]
   have hd : j * k + k ≤ i * k ∨ i * k + k ≤ j * k := by
    rcases Nat.lt_or_gt_of_ne hj with h | h
    ·left; have := Nat.mul_le_mul_right k h; rwa [Nat.succ_mul] at this
    ·right; have := Nat.mul_le_mul_right k h; rwa [Nat.succ_mul] at this
   rcases hd with hd | hd
   ·rw [if_pos (by omega)]
   ·rw [if_neg (by omega), if_neg (by omega)]
 ·rw [List.getElem?_take, if_neg hq]
  split
  ·rw [List.getElem?_eq_none]; simp; omega
  ·rw [List.getElem?_take, if_neg hq]
theorem Rel'.storeRow {b q g n cap i : Nat} {ty te : TypeId} {e r : Ty} {o : Nat} {l : List e.den} {hh : Option Nat} {rows : List r.den} {z : e.den} {v : Value} (h : Rel' P w0 M N F ρ st a w) (hA : st.a b = some (.nest ty e o te l hh)) (hρ : ρ b = some (.slice (some ⟨g, 0, none⟩) n cap)) (hi : i < n)
  (hB : st.a q = some (.arr te r rows)) (hρq : ρ q = some v) (hz : Sq.upd e (l.getD i e.dflt) o (.sl r) rows = some z) (hhi : hh = none ∨ hh = some i) :
  ∃ w' ρ', (Go.storeCells ⟨g, i * e.size + o, none⟩ [v]).run P w = .ok () w' ∧ Rel' P w0 M N F ρ' (st.app [.a q none, .a b (some (.nest ty e o te (l.set i z) none))]) a w' := by
 have hqb : q ≠ b := fun e0 => by subst e0; rw [hA] at hB; cases hB
 obtain ⟨hl, es, e1, e2⟩ := qob h.mem hA hρ hi
 obtain ⟨u, u1, ys, y1, y2, y3⟩ := h.mem.arr b _ hA
 rw [hρ] at u1; injection u1 with u1; subst u1
 obtain ⟨v', v1, xs, x1, x2⟩ := h.mem.arr q _ hB
 rw [hρq] at v1; injection v1 with v1; subst v1
 have hv1 := x1.one
 have hpb : st.present b := .inr (by rw [hA]; simp)
 have hpq : st.present q := .inr (by rw [hB]; simp)
 have hbv : st.v b = none := by
  cases hxv : st.v b with
  | none => rfl
  | some x => obtain ⟨g2, arr, q1, _⟩ := h.mem.var b x.1 x.2 hxv; rw [hρ] at q1; cases q1
 have hqv : st.v q = none := by
  cases hxv : st.v q with
  | none => rfl
  | some x =>
   obtain ⟨g2, arr, q1, q2, _⟩ := h.mem.var q x.1 x.2 hxv
   obtain ⟨v2, q3, q4⟩ := h.mem.arr q _ hB
   rw [q1] at q3; injection q3 with q3; subst q3
   exact (q4.novar rfl q2).elim
 have hsz := e1.size
 subst hl
 obtain ⟨w', s1, s2, s3, s4⟩ := qqv (P := P) (o := o) (ds := [v]) y1 hi (by simp; omega) (fun v' hv' => by rw [List.mem_singleton.1 hv']; exact hv1)
 have hblkg : ∀ g', blkOf v = some g' → g' ≠ g := fun g' hg' e0 => by subst e0; exact hqb (h.mem.sep q b v _ _ hpq hpb hρq hρ hg' s4)
 have hkg : ∀ b' g', ρ.k b' g' → g' ≠ g := fun b' g' hk e0 => by subst e0; exact h.mem.kap.k2 b' b _ _ hk hpb hρ s4
 have hFg : ∀ g', F g' → g' ≠ g := fun g' hF e0 => by subst e0; exact h.mem.own b _ _ hpb hρ s4 hF
 have hpr : ∀ b', ((st.put (.a q none)).put (.a b none)).present b' → b' ≠ b ∧ b' ≠ q ∧ st.present b' := by
  rintro b' hp
  have hp' : st.v b' ≠ none ∨ (bif Nat.beq b' b then none else bif Nat.beq b' q then none else st.a b') ≠ none := hp
  by_cases c1 : b' = b
  ·subst c1; exfalso
   rcases hp' with hp' | hp'
   ·exact hp' hbv
   ·simp at hp'
  ·by_cases c2 : b' = q
   ·subst c2; exfalso
    rcases hp' with hp' | hp'
    ·exact hp' hqv
    ·rw [bq c1] at hp'; simp at hp'
   ·refine ⟨c1, c2, ?_⟩
    rw [bq c1, bq c2] at hp'
    exact hp'
 have hw : ∀ g', g' ≠ g → g' < w.heap.size → w'.heap[g']? = w.heap[g']? := fun g' hne hlt => s2.blk g' hlt hne
 have h1 := ((h.dropA q).dropA b).move (F' := F) s2 (fun b' g' hk => hkg b' g' hk) (fun b' v' g' hp hv' hg' e0 => (hpr b' hp).1 (by subst e0; exact h.mem.sep b' b v' _ _ (hpr b' hp).2.2 hpb hv' hρ hg' s4)) (fun g' hF => hFg g' hF) (fun _ h => h) (fun _ h => .inl h)
  (fun g' hF => Nat.lt_of_lt_of_le (h.mem.fb g' hF) s2.size) (fun g' hg' hlt => by subst hg'; exact (h.lo b _ _ hpb hρ s4).resolve_right (by omega))
 have hdb : st.d b = true := by
  cases hd : st.d b with
  | true => rfl
  | false => rw [h.mem.dom b hd] at hρ; cases hρ
 have h2 := h1.addK (K := fun b' g' => b' = b ∧ blkOf v = some g') (by
   rintro b' g' ⟨rfl, hg'⟩
   exact ⟨Nat.lt_of_lt_of_le (h.mem.lt hpq hρq hg') s2.size, h.mem.own q v g' hpq hρq hg', hdb, h.lo q v g' hpq hρq hg'⟩) (by
   rintro b1 b2 v2 g' ⟨rfl, hg'⟩ hp hv2 hg2
   exact (hpr b2 hp).2.1 (h.mem.sep b2 q v2 v g' (hpr b2 hp).2.2 hpq hv2 hρq hg2 hg')) (fun b1 b2 g' k1 k2 => by rw [k1.1, k2.1]) (by
   rintro b1 b2 g' ⟨rfl, hg'⟩ hk
   exact h.mem.kap.k2 b2 q v g' hk hpq hρq hg')
 have hcl : i * e.size + e.size ≤ ys.length := by
  rw [y1.1]
  have := Nat.mul_le_mul_right e.size (show i + 1 ≤ l.length from hi)
  rwa [Nat.add_mul, Nat.one_mul] at this
 have hcell : ∀ q' (u' : Value), (ys.take (i * e.size + o) ++ [v] ++ ys.drop (i * e.size + o + [v].length))[q' * e.size + o]? = some u' → if q' = i then u' = v else ys[q' * e.size + o]? = some u' := by
  intro q' u' hu'
  rw [qah _ _ _ (by simp; omega)] at hu'
  by_cases c : q' = i
  ·subst c
   rw [if_neg (by omega), if_pos (by simp), Nat.sub_self] at hu'
   rw [if_pos rfl]; injection hu' with hu'; exact hu'.symm
  ·rw [if_neg c]
   have hd : q' * e.size + e.size ≤ i * e.size ∨ i * e.size + e.size ≤ q' * e.size := by
    rcases Nat.lt_or_gt_of_ne c with h | h
    ·left; have := Nat.mul_le_mul_right e.size h; rwa [Nat.succ_mul] at this
    ·right; have := Nat.mul_le_mul_right e.size h; rwa [Nat.succ_mul] at this
   rcases hd with hd | hd
   ·rwa [if_pos (by omega)] at hu'
   ·rwa [if_neg (by omega), if_neg (by simp; omega)] at hu'
 -- the rows of other elements lie in blocks that are held
 have hrowb : ∀ j (u' : Value) g', j ≠ i → ys[j * e.size + o]? = some u' → blkOf u' = some g' → ρ.k b g' := by
  intro j u' g' hj hu' hg'
  have hjl : j < l.length := by
   have := (List.getElem?_eq_some_iff.1 hu').1
   rw [y1.1] at this
   rcases Nat.lt_or_ge j l.length with h' | h'
   ·exact h'
   ·have := Nat.mul_le_mul_right e.size h'; omega
  have := RdX.q (y2 j _ (List.getElem?_eq_getElem hjl))
  obtain ⟨r', y', v', q1, q2⟩ := this
  rw [List.getElem?_take, if_pos hsz.2, List.getElem?_drop] at q1
  rw [hu'] at q1; injection q1 with q1; subst q1
  exact (q2 (by rcases hhi with e0 | e0 <;> rw [e0] <;> simp [Ne.symm hj])).2 g' hg'
 have hob : ObOk F w' (fun g' => ρ.k b g' ∨ blkOf v = some g') (.nest ty e o te (l.set i z) none) (.slice (some ⟨g, 0, none⟩) l.length cap) := by
  refine ⟨_, by rw [List.length_set]; exact s3, fun j x hj => ?_, fun j j' u' u'' g' _ _ a1 a2 a3 a4 => ?_⟩
  ·have hjl : j < l.length := by have := (List.getElem?_eq_some_iff.1 hj).1; simpa using this
   rw [qoc (by simp; omega) hcl j]
   by_cases c : j = i
   ·subst c
    rw [if_pos rfl]
    rw [List.getElem?_set_self hjl] at hj
    injection hj with hj; subst hj
    have hx0 : l[j]? = some (l.getD j e.dflt) := qiv hjl
    have hold := (y2 j _ hx0).mono (F' := F) (w' := w') (Q' := fun _ _ _ => True) (fun _ h => h) (fun g' hF => hw g' (hFg g' hF) (h.mem.fb g' hF)) (fun _ _ _ _ => trivial)
    refine RdX.upd (Q' := fun r y v => none ≠ some j → RowOk F (fun g' => ρ.k b g' ∨ blkOf v = some g') w' te r y v) hv1 (fun _ => ⟨⟨xs, x1.keep fun g' hg' => hw g' (hblkg g' hg') (x1.lt hg'), fun q0 y0 hy0 => (x2 q0 y0 hy0).mono (fun _ h => h) (fun g' hF => hw g' (hFg g' hF) (h.mem.fb g' hF))⟩, fun g' hg' => .inr hg'⟩) hold hz |> RdX.one |> fun hh => hh fun r y v0 hv0 hq hne => ?_
    have hq := hq hne
    refine ⟨hq.1, fun g' hg' => ?_⟩
    have hv0' : v0 = v := by
     have hsp := qah ((ys.drop (j * e.size)).take e.size) o [v] (by simp; omega) o
     rw [if_neg (by omega), if_pos (by simp), Nat.sub_self] at hsp
     have hv0 : some v = some v0 := hsp.symm.trans hv0
     injection hv0 with hv0; exact hv0.symm
    subst hv0'
    exact .inr hg'
   ·rw [if_neg c]
    rw [List.getElem?_set_ne (Ne.symm c)] at hj
    exact (y2 j x hj).mono (fun _ h => h) (fun g' hF => hw g' (hFg g' hF) (h.mem.fb g' hF)) (fun r y v0 hq _ => (hq (by rcases hhi with e0 | e0 <;> rw [e0] <;> simp [Ne.symm c])).keep (fun _ h => h) (fun g' hF => hw g' (hFg g' hF) (h.mem.fb g' hF)) (fun g' hk => hw g' (hkg b g' hk) (h.mem.kap.k1 b g' hk).1) (fun g' hk => .inl hk))
  ·have b1 := hcell j u' a1
   have b2 := hcell j' u'' a2
   by_cases c1 : j = i
   ·by_cases c2 : j' = i
    ·rw [c1, c2]
    ·rw [if_pos c1] at b1; rw [if_neg c2] at b2; subst b1
     exact absurd (hrowb j' u'' g' c2 b2 a4) fun hk => h.mem.kap.k2 b q _ g' hk hpq hρq a3
   ·by_cases c2 : j' = i
    ·rw [if_neg c1] at b1; rw [if_pos c2] at b2; subst b2
     exact absurd (hrowb j u' g' c1 b1 a3) fun hk => h.mem.kap.k2 b q _ g' hk hpq hρq a4
    ·rw [if_neg c1] at b1; rw [if_neg c2] at b2
     exact y3 j j' u' u'' g' (by rcases hhi with e0 | e0 <;> rw [e0] <;> simp [Ne.symm c1]) (by rcases hhi with e0 | e0 <;> rw [e0] <;> simp [Ne.symm c2]) b1 b2 a3 a4
 have h3 := h2.addA (b := b) (A := .nest ty e o te (l.set i z) none) (u := .slice (some ⟨g, 0, none⟩) l.length cap) hρ hbv (hob.keepK (fun _ h => h) (fun _ _ => rfl) (fun _ _ => rfl) (fun _ _ => rfl) fun g' hk => hk.imp (fun h => h) fun h => ⟨rfl, h⟩)
  (fun g' hg' => by
   rw [s4] at hg'; injection hg' with hg'; subst hg'
   exact ⟨fun b' v' hne hp hv' hbk => (hpr b' hp).1 (h.mem.sep b' b v' _ _ (hpr b' hp).2.2 hpb hv' hρ hbk s4), fun hF => hFg _ hF rfl, h.lo b _ _ hpb hρ s4⟩) (fun g' hg' b' hk => by
   rw [s4] at hg'; injection hg' with hg'; subst hg'
   rcases hk with hk | ⟨rfl, hk⟩
   ·exact hkg b' _ hk rfl
   ·exact hblkg _ hk rfl)
 have heq : ((st.put (.a q none)).put (.a b none)).put (.a b (some (.nest ty e o te (l.set i z) none))) = (st.put (.a q none)).put (.a b (some (.nest ty e o te (l.set i z) none))) := by
  refine St.ext' fun κ hg => ?_
  cases κ <;> first | (cases hg; done) | simp only [agree, St.put]
  rename_i b'
  cases hbb : Nat.beq b' b <;> simp
 rw [heq] at h3
 exact ⟨w', _, s1, h3⟩
theorem Rel'.close {b : Nat} {ty te : TypeId} {e : Ty} {o : Nat} {l : List e.den} (h : Rel' P w0 M N F ρ st a w) (hA : st.a b = some (.nest ty e o te l none)) :
  Rel' P w0 M N (fun g => F g ∨ ρ.k b g) (ρ.setK b fun _ => False) (st.put (.a b (some (.arr ty e l)))) a w ∧ ∀ g, ρ.k b g → M.blk g ∨ w0.heap.size ≤ g := by
 have ha : ∀ x, (st.put (.a b (some (.arr ty e l)))).a x = if x = b then some (.arr ty e l) else st.a x := by
  intro x
  show (bif Nat.beq x b then _ else st.a x) = _
  by_cases e0 : x = b
  ·subst e0; simp
  ·rw [bq e0, if_neg e0]; rfl
 have hp : ∀ x, (st.put (.a b (some (.arr ty e l)))).present x → st.present x := by
  rintro x (hx | hx)
  ·exact .inl hx
  ·rw [ha] at hx
   by_cases e0 : x = b
   ·subst e0; exact .inr (by rw [hA]; simp)
   ·rw [if_neg e0] at hx; exact .inr hx
 have hk : ∀ x g, (ρ.setK b fun _ => False).k x g → x ≠ b ∧ ρ.k x g := by
  intro x g hx
  have hx' : (if x = b then (fun _ => False) else ρ.k x) g := hx
  by_cases e0 : x = b
  ·subst e0; rw [if_pos rfl] at hx'; exact hx'.elim
  ·rw [if_neg e0] at hx'; exact ⟨e0, hx'⟩
 have up : ∀ {s v}, Den P F w ρ s v → Den P (fun g => F g ∨ ρ.k b g) w (ρ.setK b fun _ => False) s v := fun hd => hd.mono (fun _ h => .inl h) (fun _ _ => rfl) _ (fun _ _ h => h)
 refine ⟨⟨h.fr, ⟨h.mem.dom, fun b' ty k hv => ?_, fun x B hx => ?_, fun b1 b2 v1 v2 g p1 p2 => h.mem.sep b1 b2 v1 v2 g (hp _ p1) (hp _ p2), fun b1 v1 g p1 r1 g1 hF => hF.elim (h.mem.own b1 v1 g (hp _ p1) r1 g1) (fun hk => h.mem.kap.k2 b b1 v1 g hk (hp _ p1) r1 g1), fun g hF => hF.elim (h.mem.fb g) (fun hk => (h.mem.kap.k1 b g hk).1), h.mem.one, h.mem.glob.mono (fun _ h => .inl h) (fun _ _ => rfl),
   fun x g hx => ⟨(h.mem.kap.k1 x g (hk x g hx).2).1, fun hF => hF.elim (h.mem.kap.k1 x g (hk x g hx).2).2 (fun hb => (hk x g hx).1 (h.mem.kap.k3 x b g (hk x g hx).2 hb))⟩, fun b1 b2 v g hx p => h.mem.kap.k2 b1 b2 v g (hk _ _ hx).2 (hp _ p), fun b1 b2 g h1 h2 => h.mem.kap.k3 b1 b2 g (hk _ _ h1).2 (hk _ _ h2).2, fun x g hd hx => h.mem.kap.k4 x g hd (hk x g hx).2⟩,
  fun b1 v1 g p1 => h.lo b1 v1 g (hp _ p1), fun t => up (h.regs t), h.sz, h.df, h.pin, fun x g hx => h.lok x g (hk x g hx).2⟩, fun g hg => h.lok b g hg⟩
 ·obtain ⟨g, arr, q1, q2, q3, q4⟩ := h.mem.var b' ty k hv
  exact ⟨g, arr, q1, q2, q3, fun j x hj => ⟨up (q4 j x hj).1, (q4 j x hj).2⟩⟩
 ·rw [ha] at hx
  by_cases e0 : x = b
  ·subst e0
   rw [if_pos rfl] at hx; injection hx with hx; subst hx
   obtain ⟨u, q1, xs, q2, q3, _⟩ := h.mem.arr x _ hA
   refine ⟨u, q1, xs, q2, fun i y hy => RdX.rd (fun _ h => .inl h) (fun r l v hv hq => ?_) (q3 i y hy)⟩
   obtain ⟨⟨ys, r1, r2⟩, r3⟩ := hq (by simp)
   exact qgM (qg4 r1 r2 (fun _ h => .inl h) (fun g hg => .inr (r3 g hg))) rfl
  ·rw [if_neg e0] at hx
   obtain ⟨v, q1, q2⟩ := h.mem.arr x B hx
   refine ⟨v, q1, ?_⟩
   show ObOk _ w (if x = b then (fun _ => False) else ρ.k x) B v
   rw [if_neg e0]; exact q2.keep (fun _ h => .inl h) (fun _ _ => rfl) (fun _ _ => rfl) (fun _ _ => rfl)
/-! ### Operations -/
def rowTy : Ty → Nat → Option Ty
 | .sl r, o => bif Nat.beq o 0 then some r else none
 | .pair a b, o => bif Nat.blt o a.size then rowTy a o else rowTy b (o - a.size)
 | _, _ => none
def qod (Γ : List TI) (st : St) (t : TypeId) (x ix : Operand) : Option VR :=
 match look Γ t, (st.ev ix).int? with
 | some i, some (_, m) => match i.desc with
  | .slice e => match look Γ e with
   | some j => match st.ev x with
    | .own b => match st.a b with
     | some (.nest _ e' _ _ l _) => bif Nat.beq j.size e'.size then some ⟨inB m l.length, qaa x ++ (qaa ix ++ [.a b]), .ael b e'.size m.toNat 0⟩ else none
     | _ => none
    | _ => none
   | none => none
  | _ => none
 | _, _ => none
theorem qoe (hΓ : Tys P Γ) {t : TypeId} {x ix : Operand} {r : VR} (h : qod Γ st t x ix = some r) (hg : r.g = true) : VOk P w0 M N st (.indexAddr t x ix) rty r := by
 unfold qod at h
 split at h
 ·rename_i i k m hl hm
  obtain ⟨hi, rfl⟩ := qab hΓ hl
  split at h
  ·rename_i e hd
   split at h
   ·rename_i j hl2
    obtain ⟨hj, hje⟩ := qab hΓ hl2
    split at h
    ·rename_i b hx
     split at h
     ·rename_i tya e' o te l hh hA
      cases hb : Nat.beq j.size e'.size with
      | false => rw [hb] at h; cases h
      | true =>
       rw [hb] at h; injection h with h; subst h
       have hs := Nat.eq_of_beq_eq_true hb
       obtain ⟨g1, g2⟩ := qa0.1 hg
       intro st' hag F ρ a w hr dst pos af gd
       have hxd := hr.evx hag (fun _ h => mem_l h) (x := x)
       have hmd := (hr.evx hag (fun _ h => mem_r (mem_l h)) (x := ix)).int hm
       have hA' : st'.a b = some (.nest tya e' o te l hh) := by rw [← hA]; exact (hag (.a b) (by simp)).symm
       rw [hx] at hxd
       generalize he : a.eval x = u at hxd
       cases hxd with
       | own hρ =>
        obtain ⟨u', c1, xs, c2, c3⟩ := hr.mem.arr b _ hA'
        rw [hρ] at c1; injection c1 with c1; subst c1
        rcases c2.2 with ⟨_, _, hn⟩ | ⟨g, cap, cur, rfl, c4⟩
        ·omega
        ·refine ⟨.pointer (some ⟨g, m.toNat * e'.size, none⟩), ?_, ?_⟩
         ·have := run_indexAt' (w := w) hi hd hj hje (ad := ⟨g, 0, none⟩) (c := cap + 1) (kd := k) g1 g2
          rw [Addr.add_lit, Nat.zero_add, hs] at this
          simp only [execOp, he, hmd, Sem.run_bind, this, Result.andThen_ok, Sem.run_pure]
         ·exact .ael hρ (by omega)
     ·cases h
    ·cases h
   ·cases h
  ·cases h
 ·cases h
def qof (Γ : List TI) (st : St) (t : TypeId) (x : Operand) : Option VR :=
 match st.ev x with
 | .own b => match st.a b with
  | some (.nest _ _ _ _ l _) => bif lenOk Γ t (.own b) then some ⟨true, qaa x ++ [.a b], .v (.int .i64) (Int.ofNat l.length)⟩ else none
  | _ => none
 | _ => none
theorem qog (hΓ : Tys P Γ) {t : TypeId} {x : Operand} {r : VR} (h : qof Γ st t x = some r) : VOk P w0 M N st (.call { callee := .builtin .len, args := #[x], argTypes := #[t] }) rty r := by
 unfold qof at h
 split at h
 ·rename_i b hx
  split at h
  ·rename_i ty e o te l hh hA
   cases hk : lenOk Γ t (.own b) with
   | false => rw [hk] at h; cases h
   | true =>
    rw [hk] at h; injection h with h; subst h
    intro st' hag F ρ a w hr dst pos af gd
    have hxd := hr.evx hag (fun _ h => mem_l h) (x := x)
    have hA' : st'.a b = some (.nest ty e o te l hh) := by rw [← hA]; exact (hag (.a b) (by simp)).symm
    rw [hx] at hxd
    have fin : ∀ u, a.eval x = u → (Builtin.len_ #[t] rty #[u]).run P w = .ok (.int .i64 (Int.ofNat l.length)) w → ∃ u, (execOp a.eval ⟨dst, .call { callee := .builtin .len, args := #[x], argTypes := #[t] }, rty, pos, af, gd⟩).run P w = .ok (.value u) w ∧ Den P F w ρ (.v (.int .i64) (Int.ofNat l.length)) u := by
     intro u hu hr'
     exact ⟨_, by simp only [execOp, resolve, invoke, builtin, Sem.run_bind, Sem.run_pure, Result.andThen_ok, List.map_toArray, List.map_cons, List.map_nil, hu, hr'], .ofInt _ _⟩
    generalize he : a.eval x = u at hxd
    cases hxd with
    | own hρ =>
     obtain ⟨u', c1, xs, c2, c3⟩ := hr.mem.arr b _ hA'
     rw [hρ] at c1; injection c1 with c1; subst c1
     rcases c2.2 with ⟨_, h2, hl0⟩ | ⟨g, cap, cur, h2, _⟩
     ·subst h2
      refine fin _ he ?_
      rw [hl0]; exact qdw hΓ hk (fun l' e => by cases e)
     ·subst h2; exact fin _ he (qdw hΓ hk (fun l' e => by cases e))
  ·cases h
 ·cases h
def qk2 (Γ : List TI) (st : St) (N d : Nat) (t : TypeId) (x : Operand) : Option MR :=
 match look Γ t with
 | none => none
 | some i => match st.ev x with
  | .ael b k ix o => match st.a b with
   | some (.nest ty e o' te l none) => match rowTy e o with
    | some r => bif Nat.beq k e.size && Nat.beq o o' && Nat.blt d N && !st.d (fresh st d 8 0) && !qaq i.desc then match sub e (l.getD ix e.dflt) o (.sl r) with
      | some rows => some ⟨true, qaa x ++ [.a b, .d (fresh st d 8 0)], [.a b (some (.nest ty e o te l (some ix))), .d (fresh st d 8 0), .a (fresh st d 8 0) (some (.arr te r rows)), .r d (.own (fresh st d 8 0))]⟩
      | none => none
     else none
    | none => none
   | _ => none
  | _ => none
theorem qmX (hΓ : Tys P Γ) {d : Nat} {t : TypeId} {x : Operand} {r : MR} (h : qk2 Γ st N d t x = some r) : MOk P w0 M N F0 ops st (some d) (.load t x) rty r := by
 unfold qk2 at h
 split at h
 ·cases h
 ·rename_i i hl
  obtain ⟨hi, rfl⟩ := qab hΓ hl
  split at h
  ·rename_i b k ix o hx
   split at h
   ·rename_i ty e o' te l hA
    split at h
    ·rename_i r0 hrt
     cases hb : (Nat.beq k e.size && Nat.beq o o' && Nat.blt d N && !st.d (fresh st d 8 0) && !qaq i.desc) with
     | false => rw [hb] at h; cases h
     | true =>
      rw [hb] at h; simp only [cond_true] at h
      simp only [Bool.and_eq_true, Bool.not_eq_true'] at hb
      obtain ⟨⟨⟨⟨b1, b2⟩, b3⟩, b4⟩, b5⟩ := hb
      have b1 := Nat.eq_of_beq_eq_true b1
      have b2 := Nat.eq_of_beq_eq_true b2
      rw [Nat.blt_eq] at b3
      subst b1 b2
      split at h
      ·rename_i rows hs
       injection h with h; subst h
       intro pos af
       refine RT.stepW rfl fun st' hag F ρ a w hr => ?_
       have hxd := hr.evx hag (fun _ h => mem_l h) (x := x)
       have hA' : st'.a b = some (.nest ty e o te l none) := by rw [← hA]; exact (hag (.a b) (by simp)).symm
       have hd' : st'.d (fresh st d 8 0) = false := by rw [← b4]; exact (hag (.d _) (by simp)).symm
       rw [hx] at hxd
       generalize he : a.eval x = u at hxd
       cases hxd with
       | ael hρ hin =>
        rename_i g n cap
        obtain ⟨v, ρ', c1, c2⟩ := hr.loadRow hA' hρ hin hs hd' b3
        refine ⟨v, ρ', F, w, .inl ?_, c2, fun _ h => h, fun _ h => .inl h⟩
        simp [execOp, he, Instr.loadAt, Instr.sureAddr, qgQ hi b5 c1]
      ·cases h
    ·cases h
   ·cases h
  ·cases h
def holeG : Option Nat → Nat → Bool
 | none, _ => true
 | some j, ix => Nat.beq j ix
def qiU (Γ : List TI) (st : St) (t : TypeId) (x y : Operand) : Option MR :=
 match look Γ t with
 | none => none
 | some i => match st.ev x, st.ev y with
  | .ael b k ix o, .own q => match st.a b, st.a q with
   | some (.nest ty e o' te l hh), some (.arr te' r rows) => bif Nat.beq k e.size && Nat.beq o o' && Nat.beq te te' && Nat.beq i.size 1 then match upd e (l.getD ix e.dflt) o (.sl r) rows with
     | some z => some ⟨holeG hh ix, qaa x ++ (qaa y ++ [.a b, .a q]), [.a q none, .a b (some (.nest ty e o te (l.set ix z) none))]⟩
     | none => none
    else none
   | _, _ => none
  | _, _ => none
theorem qk3 (hΓ : Tys P Γ) {t : TypeId} {x y : Operand} {r : MR} (h : qiU Γ st t x y = some r) (hg : r.g = true) : MOk P w0 M N F0 ops st none (.store t x y) rty r := by
 unfold qiU at h
 split at h
 ·cases h
 ·rename_i i hl
  obtain ⟨hi, rfl⟩ := qab hΓ hl
  split at h
  ·rename_i b k ix o q hx hy
   split at h
   ·rename_i ty e o' te l hh te' r0 rows hA hB
    cases hb : (Nat.beq k e.size && Nat.beq o o' && Nat.beq te te' && Nat.beq i.size 1) with
    | false => rw [hb] at h; cases h
    | true =>
     rw [hb] at h; simp only [cond_true] at h
     simp only [Bool.and_eq_true] at hb
     obtain ⟨⟨⟨b1, b2⟩, b3⟩, b4⟩ := hb
     have b1 := Nat.eq_of_beq_eq_true b1
     have b2 := Nat.eq_of_beq_eq_true b2
     have b3 := Nat.eq_of_beq_eq_true b3
     have b4 := Nat.eq_of_beq_eq_true b4
     subst b1 b2 b3
     split at h
     ·rename_i z hz
      injection h with h; subst h
      intro pos af
      refine RT.stepW rfl fun st' hag F ρ a w hr => ?_
      have hxd := hr.evx hag (fun _ h => mem_l h) (x := x)
      have hyd := hr.evx hag (fun _ h => mem_r (mem_l h)) (x := y)
      have hA' : st'.a b = some (.nest ty e o te l hh) := by rw [← hA]; exact (hag (.a b) (by simp)).symm
      have hB' : st'.a q = some (.arr te r0 rows) := by rw [← hB]; exact (hag (.a q) (by simp)).symm
      rw [hx] at hxd
      rw [hy] at hyd
      generalize he : a.eval x = u at hxd
      generalize hf : a.eval y = v at hyd
      cases hxd with
      | ael hρ hin =>
       cases hyd with
       | own hρq =>
        rename_i g n cap
        have hhi : hh = none ∨ hh = some ix := by
         cases hh with
         | none => exact .inl rfl
         | some j => exact .inr (by rw [Nat.eq_of_beq_eq_true (show Nat.beq j ix = true from hg)])
        obtain ⟨w', ρ', s1, s2⟩ := hr.storeRow hA' hρ hin hB' hρq hz hhi
        have hv1 := hr.mem.one _ _ hρq
        refine ⟨undef, ρ', F, w', .inr ⟨?_, rfl⟩, s2, fun _ h => h, fun _ h => .inl h⟩
        have hcv := qfr hv1
        have hrs := run_storeVar' (w := w) hi (ad := ⟨g, ix * e.size + o, none⟩) (v := v) (by rw [hcv, b4]; rfl)
        rw [hcv] at hrs
        simp only [execOp, he, hf, Instr.storeAt, Instr.sureAddr, Sem.run_bind, Sem.run_pure, Result.andThen_ok, hrs, s1]
     ·cases h
   ·cases h
  ·cases h
theorem RdX.oneAll {Q : (r : Ty) → List r.den → Value → Prop} : ∀ {e : Ty} {o : Nat} {x : e.den} {es : List Value}, RdX F w Q e o x es → ∀ v ∈ es, v.oneCell' = true := by
 intro e
 induction e with
 | sl r => intro o x es h v hv; obtain ⟨_, v', rfl, h1, _⟩ := h; rw [List.mem_singleton.1 hv]; exact h1
 | pair p q ihp ihq =>
  intro o x es h v hv
  obtain ⟨c1, c2, rfl, h | h⟩ := h
  ·rcases List.mem_append.1 hv with hv | hv
   ·exact ihp h.2.1 v hv
   ·exact h.2.2.one v hv
  ·rcases List.mem_append.1 hv with hv | hv
   ·exact h.2.1.one v hv
   ·exact ihq h.2.2 v hv
 | _ => intro o x es h; exact h.elim
theorem qjY {k n q : Nat} {xs news : List Value} (hl : xs.length = n * k) : ((xs ++ news).drop (q * k)).take k = if q < n then (xs.drop (q * k)).take k else (news.drop ((q - n) * k)).take k := by
 split
 ·rename_i hq
  have hrow : q * k + k ≤ n * k := by
   have := Nat.mul_le_mul_right k (show q + 1 ≤ n from hq)
   rwa [Nat.add_mul, Nat.one_mul] at this
  rw [List.drop_append_of_le_length (by omega), List.take_append_of_le_length (by simp; omega)]
 ·have e1 : q * k = xs.length + (q - n) * k := by
   rw [hl, ← Nat.add_mul]; congr 1; omega
  rw [e1, List.drop_append, List.drop_of_length_le (by omega), List.nil_append, Nat.add_sub_cancel_left]
theorem qlT {K : Nat → Prop} {te : TypeId} {e : Ty} {o : Nat} {l : List e.den} {ys : List Value} (hl : ys.length = l.length * e.size) (y2 : ∀ (i : Nat) (x : e.den), l[i]? = some x → RdX F w (fun r y v => none ≠ some i → RowOk F K w te r y v) e o x ((ys.drop (i * e.size)).take e.size))
  {j : Nat} {u : Value} {g : Nat} (ho : o < e.size) (hu : ys[j * e.size + o]? = some u) (hg : blkOf u = some g) : K g ∧ j < l.length := by
 have hjl : j < l.length := by
  have := (List.getElem?_eq_some_iff.1 hu).1
  rw [hl] at this
  rcases Nat.lt_or_ge j l.length with h' | h'
  ·exact h'
  ·have := Nat.mul_le_mul_right e.size h'; omega
 obtain ⟨r', y', v', q1, q2⟩ := RdX.q (y2 j _ (List.getElem?_eq_getElem hjl))
 rw [List.getElem?_take, if_pos ho, List.getElem?_drop, hu] at q1
 injection q1 with q1; subst q1
 exact ⟨(q2 (by simp)).2 g hg, hjl⟩
def qoh (Γ : List TI) (st : St) (N d : Nat) (t t2 : TypeId) (x y : Operand) : Option MR :=
 match look Γ t with
 | some i => match i.desc with
  | .slice te0 => match look Γ te0 with
   | some j => match st.ev x, st.ev y with
    | .own b, .own q => match st.a b, st.a q with
     | some (.nest ty e o te l none), some (.nest ty' e' o' te' [x2] none) => if h : e' = e then
       bif Nat.blt d N && !st.d (fresh st d 8 0) && Nat.beq j.size e.size && Nat.blt 0 j.bytes && Nat.beq j.zero.cells.size j.size && Nat.beq t t2 && Nat.beq ty te0 && Nat.beq o o' && Nat.beq te te' && !Nat.beq b q && Nat.blt o e.size then
        some ⟨fits (l.length + 1) j.bytes, qaa x ++ (qaa y ++ [.d (fresh st d 8 0), .a b, .a q]), [.a b none, .a q none, .d (fresh st d 8 0), .a (fresh st d 8 0) (some (.nest ty e o te (l ++ [h ▸ x2]) none)), .r d (.own (fresh st d 8 0))]⟩ else none
      else none
     | _, _ => none
    | _, _ => none
   | none => none
  | _ => none
 | none => none
theorem qoi (hΓ : Tys P Γ) {d : Nat} {t t2 : TypeId} {x y : Operand} {r : MR} (h : qoh Γ st N d t t2 x y = some r) (hg : r.g = true) :
  MOk P w0 M N F0 ops st (some d) (.call { callee := .builtin .append, args := #[x, y], argTypes := #[t, t2] }) rty r := by
 unfold qoh at h
 split at h
 ·rename_i i hl
  obtain ⟨hi, rfl⟩ := qab hΓ hl
  split at h
  ·rename_i te0 hd
   split at h
   ·rename_i j hl2
    obtain ⟨hj, rfl⟩ := qab hΓ hl2
    split at h
    ·rename_i b q hx hy
     split at h
     ·rename_i ty e o te l ty' e' o' te' x2 hA hB
      split at h
      ·rename_i he
       subst he
       generalize hc : (Nat.blt d N && !st.d (fresh st d 8 0) && Nat.beq j.size e'.size && Nat.blt 0 j.bytes && Nat.beq j.zero.cells.size j.size && Nat.beq i.t t2 && Nat.beq ty j.t && Nat.beq o o' && Nat.beq te te' && !Nat.beq b q && Nat.blt o e'.size) = c at h
       cases c with
       | false => cases h
       | true =>
        simp only [cond_true] at h
        injection h with h; subst h
        simp only [Bool.and_eq_true, Bool.not_eq_true'] at hc
        obtain ⟨⟨⟨⟨⟨⟨⟨⟨⟨⟨c1, c2⟩, c3⟩, c4⟩, c5⟩, c6⟩, c7⟩, c8⟩, c9⟩, c10⟩, c11⟩ := hc
        rw [Nat.blt_eq] at c1 c4 c11
        have c3 := Nat.eq_of_beq_eq_true c3
        have c5 := Nat.eq_of_beq_eq_true c5
        have c6 := Nat.eq_of_beq_eq_true c6
        have c7 := Nat.eq_of_beq_eq_true c7
        have c8 := Nat.eq_of_beq_eq_true c8
        have c9 := Nat.eq_of_beq_eq_true c9
        have hbq : b ≠ q := fun e0 => by subst e0; simp at c10
        subst c6 c7 c8 c9
        have hfit := Nat.le_of_ble_eq_true hg
        have hbig : l.length + 1 ≤ 140737488355328 := Nat.le_trans (Nat.le_mul_of_pos_right _ c4) hfit
        intro pos af
        refine RT.stepW rfl fun st' hag F ρ a w hr => ?_
        have hd' : st'.d (fresh st d 8 0) = false := by rw [← c2]; exact (hag (.d _) (by simp)).symm
        have hA' : st'.a b = some (.nest j.t e' o te l none) := by rw [← hA]; exact (hag (.a b) (by simp)).symm
        have hB' : st'.a q = some (.nest ty' e' o te [x2] none) := by rw [← hB]; exact (hag (.a q) (by simp)).symm
        have hu := hi.und
        rw [hd] at hu
        have hinfo := hj.info
        have hxd := hr.evx hag (fun _ h => mem_l h) (x := x)
        have hyd := hr.evx hag (fun _ h => mem_r (mem_l h)) (x := y)
        rw [hx] at hxd
        rw [hy] at hyd
        generalize he1 : a.eval x = u at hxd
        generalize he2 : a.eval y = v at hyd
        cases hxd with
        | own hρb =>
        cases hyd with
        | own hρq =>
        generalize hn : fresh st d 8 0 = n at hd' ⊢
        obtain ⟨u', u1, ys, y1, y2, y3⟩ := hr.mem.arr b _ hA'
        rw [hρb] at u1; injection u1 with u1; subst u1
        obtain ⟨v', v1, zs, z1, z2, z3⟩ := hr.mem.arr q _ hB'
        rw [hρq] at v1; injection v1 with v1; subst v1
        rcases z1.2 with ⟨_, _, hh⟩ | ⟨gq, cq, curq, hv, _⟩
        ·simp at hh
        have hv : v = .slice (some ⟨gq, 0, none⟩) 1 (cq + 1) := hv
        have hzl : zs.length = 1 * j.size := by rw [c3]; exact z1.1
        have hz0 := z2 0 x2 rfl
        have hzall : (zs.drop (0 * e'.size)).take e'.size = zs := by rw [Nat.zero_mul, List.drop_zero, List.take_of_length_le (by rw [z1.1]; simp)]
        rw [hzall] at hz0
        have hpb : st'.present b := .inr (by rw [hA']; simp)
        have hpq : st'.present q := .inr (by rw [hB']; simp)
        obtain ⟨v', w', k1, k2, k3, k4⟩ := qcy (P := P) (w := w) i.t rty j.t j.size j.bytes j.zero hu hinfo c5 (by omega) u l.length ys (by rw [c3]; exact y1) ⟨gq, 0, none⟩ 1 (cq + 1) zs hzl (fun j0 u0 h0 => z1.cells (g := gq) hv j0 u0 h0) (fun u0 hu0 => hz0.oneAll u0 hu0) (by simp only [maxLen]; omega) hfit
        rw [c3] at k2
        have hfr : Fr w (fun g => blkOf u = some g) w' := ⟨k3.os, k3.tape, k3.output, k3.size, fun g hg hn => k3.block g hg (fun e => hn e.symm)⟩
        have hexec : (execOp a.eval ⟨some d, .call { callee := .builtin .append, args := #[x, y], argTypes := #[i.t, i.t] }, rty, pos, af, none⟩).run P w = .ok (.value v') w' := by
         have he2' : a.eval y = .slice (some ⟨gq, 0, none⟩) 1 (cq + 1) := he2.trans hv
         simp only [execOp, resolve, invoke, builtin, Sem.run_bind, Sem.run_pure, Result.andThen_ok, List.map_toArray, List.map_cons, List.map_nil, he1, he2', k1]
        -- what is written is no one else's
        have hX : ∀ g, blkOf u = some g → ∀ b' v0, b' ≠ b → st'.present b' → ρ b' = some v0 → blkOf v0 ≠ some g := fun g hg b' v0 hne hp hv0 hg0 => hne (hr.mem.sep b' b v0 u g hp hpb hv0 hρb hg0 hg)
        have hXk : ∀ b' g, ρ.k b' g → ¬ blkOf u = some g := fun b' g hk hg => hr.mem.kap.k2 b' b u g hk hpb hρb hg
        have hXF : ∀ g, F g → ¬ blkOf u = some g := fun g hF hg => hr.mem.own b u g hpb hρb hg hF
        have hvn : ∀ b', st'.a b' ≠ none → st'.v b' = none := by
         intro b' hb'
         cases hxv : st'.v b' with
         | none => rfl
         | some x0 =>
          obtain ⟨g2, arr, q1, q2, _⟩ := hr.mem.var b' x0.1 x0.2 hxv
          obtain ⟨A0, hA0⟩ := Option.ne_none_iff_exists'.1 hb'
          obtain ⟨v2, q3, q4⟩ := hr.mem.arr b' _ hA0
          rw [q1] at q3; injection q3 with q3; subst q3
          exact (q4.novar rfl q2).elim
        have hpr : ∀ b', ((st'.put (.a b none)).put (.a q none)).present b' → b' ≠ b ∧ b' ≠ q ∧ st'.present b' := by
         rintro b' hp
         have hp' : st'.v b' ≠ none ∨ (bif Nat.beq b' q then none else bif Nat.beq b' b then none else st'.a b') ≠ none := hp
         by_cases c1 : b' = b
         ·subst c1; exfalso
          rcases hp' with hp' | hp'
          ·exact hp' (hvn _ (by rw [hA']; simp))
          ·rw [bq hbq] at hp'; simp at hp'
         ·by_cases c2 : b' = q
          ·subst c2; exfalso
           rcases hp' with hp' | hp'
           ·exact hp' (hvn _ (by rw [hB']; simp))
           ·simp at hp'
          ·refine ⟨c1, c2, ?_⟩
           rw [bq c1, bq c2] at hp'
           exact hp'
        have h0 := ((hr.dropA b).dropA q).clrK (l := [b, q]) (by
         intro b' hb'
         show (bif Nat.beq b' q then none else bif Nat.beq b' b then none else st'.a b') = none
         rcases List.mem_cons.1 hb' with e0 | hb'
         ·subst e0; rw [bq hbq]; simp
         ·rw [List.mem_singleton.1 hb']; simp)
        have h1 := h0.move (F' := F) hfr (fun b' g hk => hXk b' g hk.2) (fun b' v0 g hp hv0 hg hg0 => hX g hg0 b' v0 (hpr b' hp).1 (hpr b' hp).2.2 hv0 hg) hXF (fun _ h => h) (fun _ h => .inl h) (fun g hF => Nat.lt_of_lt_of_le (hr.mem.fb g hF) hfr.size) (fun g hg hlt => (hr.lo b u g hpb hρb hg).resolve_right (by omega))
        have h2 := h1.name (b := n) (u := v') hd' k2.one
        have hset : ((ρ.clr [b, q]).set n v') n = some v' := by rw [Env.set_at]; rw [if_pos rfl]
        have hne : ∀ b' v0, b' ≠ n → ((ρ.clr [b, q]).set n v') b' = some v0 → ρ b' = some v0 := fun b' v0 hb' hv0 => by rw [Env.set_at] at hv0; rwa [if_neg hb'] at hv0
        have hnp : ¬ st'.present n := (hr.mem.absent hd').2.2
        have h3 := h2.addK (K := fun b' g => b' = n ∧ (ρ.k b g ∨ ρ.k q g)) (by
          rintro b' g ⟨rfl, hk⟩
          have hk1 : g < w.heap.size ∧ ¬ F g := hk.elim (hr.mem.kap.k1 b g) (hr.mem.kap.k1 q g)
          exact ⟨Nat.lt_of_lt_of_le hk1.1 hfr.size, hk1.2, by show (bif Nat.beq b' b' then true else _) = true; simp, hk.elim (hr.lok b g) (hr.lok q g)⟩) (by
          rintro b1 b2 v0 g ⟨rfl, hk⟩ hp hv0
          have hp2 := (hpr b2 hp).2.2
          have hne2 : b2 ≠ b1 := fun e0 => by subst e0; exact hnp hp2
          exact hk.elim (fun hk => hr.mem.kap.k2 b b2 v0 g hk hp2 (hne b2 v0 hne2 hv0)) (fun hk => hr.mem.kap.k2 q b2 v0 g hk hp2 (hne b2 v0 hne2 hv0))) (fun b1 b2 g k1 k2 => by rw [k1.1, k2.1]) (by
          rintro b1 b2 g ⟨rfl, hk⟩ hk2
          have hk2 : b2 ∉ [b, q] ∧ ρ.k b2 g := hk2
          rcases hk with hk | hk
          ·exact hk2.1 (by rw [hr.mem.kap.k3 b2 b g hk2.2 hk]; simp)
          ·exact hk2.1 (by rw [hr.mem.kap.k3 b2 q g hk2.2 hk]; simp))
        have hkw : ∀ b' g, ρ.k b' g → w'.heap[g]? = w.heap[g]? := fun b' g hk => hfr.blk g (hr.mem.kap.k1 b' g hk).1 (hXk b' g hk)
        have hFw : ∀ g, F g → w'.heap[g]? = w.heap[g]? := fun g hF => hfr.blk g (hr.mem.fb g hF) (hXF g hF)
        have hob : ObOk F w' (fun g => ρ.k b g ∨ ρ.k q g) (.nest j.t e' o te (l ++ [x2]) none) v' := by
         refine ⟨ys ++ zs, by rw [List.length_append]; exact k2, fun p x0 hp => ?_, fun p p' a0 a1 g _ _ q1 q2 q3 q4 => ?_⟩
         ·rw [qjY y1.1]
          by_cases hpl : p < l.length
          ·rw [if_pos hpl]
           rw [List.getElem?_append_left hpl] at hp
           exact (y2 p x0 hp).mono (fun _ h => h) hFw (fun r y v hq hne => (hq (by simp)).keep (fun _ h => h) hFw (fun g hk => hkw b g hk) (fun g hk => .inl hk))
          ·rw [if_neg hpl]
           rw [List.getElem?_append_right (by omega)] at hp
           exact (z2 _ x0 hp).mono (fun _ h => h) hFw (fun r y v hq hne => (hq (by simp)).keep (fun _ h => h) hFw (fun g hk => hkw q g hk) (fun g hk => .inr hk))
         ·have side : ∀ (p : Nat) (a0 : Value), (ys ++ zs)[p * e'.size + o]? = some a0 → blkOf a0 = some g → (p < l.length ∧ ys[p * e'.size + o]? = some a0 ∧ ρ.k b g) ∨ (p = l.length ∧ ρ.k q g) := by
           intro p a0 q1 q3
           by_cases hpl : p < l.length
           ·have hrow : p * e'.size + e'.size ≤ l.length * e'.size := by
             have := Nat.mul_le_mul_right e'.size (show p + 1 ≤ l.length from hpl)
             rwa [Nat.add_mul, Nat.one_mul] at this
            rw [List.getElem?_append_left (by rw [y1.1]; omega)] at q1
            exact .inl ⟨hpl, q1, (qlT y1.1 y2 c11 q1 q3).1⟩
           ·have hge : l.length * e'.size ≤ p * e'.size := Nat.mul_le_mul_right _ (by omega)
            rw [List.getElem?_append_right (by rw [y1.1]; omega), y1.1, show p * e'.size + o - l.length * e'.size = (p - l.length) * e'.size + o by rw [Nat.sub_mul]; omega] at q1
            obtain ⟨r1, r2⟩ := qlT z1.1 z2 c11 q1 q3
            simp at r2
            exact .inr ⟨by omega, r1⟩
          rcases side p a0 q1 q3 with ⟨s1, s2, s3⟩ | ⟨s1, s3⟩
          ·rcases side p' a1 q2 q4 with ⟨t1, t2, t3⟩ | ⟨t1, t3⟩
           ·exact y3 p p' a0 a1 g (by simp) (by simp) s2 t2 q3 q4
           ·exact absurd (hr.mem.kap.k3 b q g s3 t3) hbq
          ·rcases side p' a1 q2 q4 with ⟨t1, t2, t3⟩ | ⟨t1, t3⟩
           ·exact absurd (hr.mem.kap.k3 b q g t3 s3) hbq
           ·rw [s1, t1]
        have h4 := h3.addA (b := n) (A := .nest j.t e' o te (l ++ [x2]) none) (u := v') hset (hr.mem.absent hd').1 (hob.keepK (fun _ h => h) (fun _ _ => rfl) (fun _ _ => rfl) (fun _ _ => rfl) fun g hk => .inr ⟨rfl, hk⟩) (fun g hg => by
          rcases k4 with k4 | k4
          ·rw [k4] at hg
           exact ⟨fun b' v0 hb' hp hv0 => hX g hg b' v0 (hpr b' hp).1 (hpr b' hp).2.2 (hne b' v0 hb' hv0), fun hF => hXF g hF hg, hr.lo b u g hpb hρb hg⟩
          ·have hge := k4 g hg
           exact ⟨fun b' v0 hb' hp hv0 hg0 => by have := hr.mem.lt (hpr b' hp).2.2 (hne b' v0 hb' hv0) hg0; omega, fun hF => by have := hr.mem.fb g hF; omega, .inr (Nat.le_trans hr.fr.size hge)⟩) (fun g hg b' hk => by
          have hk' : ∃ b0, ρ.k b0 g := by
           rcases hk with hk | ⟨_, hk | hk⟩
           ·exact ⟨b', hk.2⟩
           ·exact ⟨b, hk⟩
           ·exact ⟨q, hk⟩
          obtain ⟨b0, hk0⟩ := hk'
          rcases k4 with k4 | k4
          ·rw [k4] at hg; exact hXk b0 g hk0 hg
          ·have := k4 g hg; have := (hr.mem.kap.k1 b0 g hk0).1; omega)
        exact ⟨v', _, F, w', .inl hexec, h4.setR c1 (.own hset), fun _ h => h, fun _ h => .inl h⟩
      ·cases h
     ·cases h
    ·cases h
   ·cases h
  ·cases h
 ·cases h
def qiV : List Nat → Nat → Option (Nat × Nat)
 | [], _ => none
 | m :: r, d => bif Nat.beq (m % 1099511627776) (d + 6000000) && Nat.ble 1099511627776 m then some ((m / 1099511627776 - 1) % 1024, (m / 1099511627776 - 1) / 1024) else qiV r d
def qgA : SV → Bool
 | .raw (.slice none 0 0) => true
 | _ => false
theorem qjZ {s : SV} {u : Value} (h : qgA s = true) (hd : Den P F w ρ s u) : u = .slice none 0 0 := by
 unfold qgA at h
 split at h
 ·cases hd; rfl
 ·cases h
def qoj (Γ : List TI) (ow : List Nat) (st : St) (N d : Nat) (t : TypeId) (len : Nat) (parts : List (Nat × Operand)) : Option MR :=
 match qiV ow d with
 | some (o, te) => match evBSl Γ st t len parts, bslCs Γ st t len parts with
  | some (e, ⟨τ, [x]⟩), some cs => match rowTy τ o with
   | some r => match sub τ x o (.sl r) with
    | some [] => bif Nat.blt d N && !st.d (fresh st d 8 0) && RdX.ok τ o && qgA (nthS cs o) && Nat.blt o cs.length then
      some ⟨true, qcx parts ++ [.d (fresh st d 8 0)], [.d (fresh st d 8 0), .a (fresh st d 8 0) (some (.nest e τ o te [x] none)), .r d (.own (fresh st d 8 0))]⟩ else none
    | _ => none
   | none => none
  | _, _ => none
 | none => none
theorem qok (hΓ : Tys P Γ) {ow : List Nat} {d : Nat} {t : TypeId} {len : Nat} {parts : List (Nat × Operand)} {r : MR} (h : qoj Γ ow st N d t len parts = some r) : MOk P w0 M N F0 ops st (some d) (.buildSlice t len parts.toArray) rty r := by
 unfold qoj at h
 split at h
 ·rename_i o te hm
  split at h
  ·rename_i e τ x cs hl hcs
   split at h
   ·rename_i r0 hrt
    split at h
    ·rename_i hsub
     cases hb : (Nat.blt d N && !st.d (fresh st d 8 0) && RdX.ok τ o && qgA (nthS cs o) && Nat.blt o cs.length) with
     | false => rw [hb] at h; cases h
     | true =>
      rw [hb] at h; injection h with h; subst h
      simp only [Bool.and_eq_true, Bool.not_eq_true'] at hb
      obtain ⟨⟨⟨⟨b1, b2⟩, b3⟩, b4⟩, b5⟩ := hb
      rw [Nat.blt_eq] at b1 b5
      intro pos af
      refine RT.stepW rfl fun st' hag F ρ a w hr => ?_
      have hd' : st'.d (fresh st d 8 0) = false := by rw [← b2]; exact (hag (.d _) (by simp)).symm
      obtain ⟨arr', h1, h2, h3, h4, h5⟩ := qe9 hΓ hl hag (fun κ hκ => mem_l hκ) hr
      have hlen : len = 1 := by rw [← h4]; rfl
      subst hlen
      have hnil : ∀ v, arr'.toList[o]? = some v → v = .slice none 0 0 := fun v hv => qjZ b4 (h5 cs hcs o (nthS cs o) v (by rw [qgy (List.getElem?_eq_getElem b5)]; exact List.getElem?_eq_getElem b5) (by simpa using hv))
      have hob : ObOk0 F (w.alloc (.cells arr' e)) (.nest e τ o te [x] none) (.slice (some ⟨w.heap.size, 0, none⟩) 1 1) := by
       obtain ⟨xs, x1, x2⟩ := h2
       have hxs : xs = arr'.toList := by
        rcases x1.2 with ⟨_, _, hh⟩ | ⟨g, cap, cur, hv, hheap, _, _, hsz, htk⟩
        ·cases hh
        ·injection hv with e1 e2 e3
         injection e1 with e1; injection e1 with e1; subst e1
         rw [heap_alloc_new] at hheap
         injection hheap with hheap; injection hheap with hheap; subst hheap
         rw [← htk, List.take_of_length_le (by simp [h3])]
       subst hxs
       have hsz : arr'.toList.length = τ.size := by simp [h3]
       refine ⟨_, x1, fun i y hy => ?_, fun i j v v' g _ _ q1 q2 q3 q4 => ?_⟩
       ·cases i with
        | succ i => simp at hy
        | zero =>
         have hx0 := x2 0 y hy
         simp only [List.getElem?_cons_zero, Option.some.injEq] at hy
         subst hy
         refine RdC.toX hx0 hsub b3 (fun v hv _ _ => ?_)
         rw [Nat.zero_mul, List.drop_zero, List.take_of_length_le (by omega)] at hv
         rw [hnil v hv]
         exact ⟨⟨[], OwnR.nil _ te r0.size none, fun i x hx => by simp at hx⟩, fun g hg => by cases hg⟩
       ·have hi : i = 0 := by
         have := (List.getElem?_eq_some_iff.1 q1).1
         rw [hsz] at this
         rcases Nat.eq_zero_or_pos i with h0 | h0
         ·exact h0
         ·have := Nat.mul_le_mul_right τ.size h0; omega
        subst hi
        rw [Nat.zero_mul, Nat.zero_add] at q1
        rw [hnil v q1] at q3; cases q3
      refine ⟨_, _, F, _, .inl ?_, hr.newA hd' b1 (qcv w (.cells arr' e)) hob (fun g hg => by rw [qct hg]; exact Nat.le_refl _), fun _ h => h, fun _ h => .inl h⟩
      simp only [execOp, Sem.run_bind, h1, Result.andThen_ok, Sem.run_pure]
    ·cases h
   ·cases h
  ·cases h
 ·cases h
def qk4 (Γ : List TI) (ow : List Nat) (st : St) (N d : Nat) (t : TypeId) (x y : Operand) : Option MR :=
 match qiV ow d with
 | some (0, te) => match look Γ t with
  | some i => match i.desc with
   | .slice e => match look Γ e with
    | some j => match rowTy j.τ 0, j.zero.cells.toList, (st.ev x).int? with
     | some r, [.slice none 0 0], some (.i64, m) => bif Nat.blt d N && !st.d (fresh st d 8 0) && decide (j.τ = .sl r) && Nat.blt 0 j.bytes && qfa x y && Nat.beq j.size 1 then
       some ⟨makeG j.bytes m, qaa x ++ (qaa y ++ [.d (fresh st d 8 0)]), [.d (fresh st d 8 0), .a (fresh st d 8 0) (some (.nest e (.sl r) 0 te (List.replicate m.toNat []) none)), .r d (.own (fresh st d 8 0))]⟩ else none
     | _, _, _ => none
    | none => none
   | _ => none
  | none => none
 | _ => none
theorem qmY (hΓ : Tys P Γ) {ow : List Nat} {d : Nat} {t : TypeId} {x y : Operand} {r : MR} (h : qk4 Γ ow st N d t x y = some r) (hg : r.g = true) : MOk P w0 M N F0 ops st (some d) (.makeSlice t x y) rty r := by
 unfold qk4 at h
 split at h
 ·rename_i te hnm
  split at h
  ·rename_i i hl
   obtain ⟨hi, rfl⟩ := qab hΓ hl
   split at h
   ·rename_i e hd
    split at h
    ·rename_i j hl2
     obtain ⟨hj, rfl⟩ := qab hΓ hl2
     split at h
     ·rename_i r0 m hrt hzc hm
      cases hb : (Nat.blt d N && !st.d (fresh st d 8 0) && decide (j.τ = .sl r0) && Nat.blt 0 j.bytes && qfa x y && Nat.beq j.size 1) with
      | false => rw [hb] at h; cases h
      | true =>
       rw [hb] at h; injection h with h; subst h
       simp only [Bool.and_eq_true, Bool.not_eq_true', decide_eq_true_eq] at hb
       obtain ⟨⟨⟨⟨⟨c1, c2⟩, c3⟩, c5⟩, c7⟩, c8⟩ := hb
       have c8 := Nat.eq_of_beq_eq_true c8
       rw [Nat.blt_eq] at c1 c5
       have hg' : makeG j.bytes m = true := hg
       simp only [makeG, Bool.and_eq_true, decide_eq_true_eq] at hg'
       have hxy : x = y := by
        cases x <;> cases y <;> first | (simp only [qfa] at c7; rw [Nat.eq_of_beq_eq_true c7]) | cases c7
       subst hxy
       intro pos af
       refine RT.stepW rfl fun st' hag F ρ a w hr => ?_
       have hd' : st'.d (fresh st d 8 0) = false := by rw [← c2]; exact (hag (.d _) (by simp)).symm
       have hu := hi.und
       rw [hd] at hu
       have hxd := (hr.evx hag (fun _ h => mem_l h) (x := x)).int hm
       obtain ⟨inf, i1, i2, i3, i4⟩ := hj.info
       have hzsz : j.zero.cells.size = 1 := by rw [← Array.length_toList, hzc]; rfl
       have hb : (inf.bytes : Int) * m ≤ 281474976710656 := by rw [i3]; exact hg'.2
       have hmm : ((m.toNat : Nat) : Int) = m := by omega
       have hsm : m.toNat ≤ 281474976710656 := by
        have h1 : inf.bytes * m.toNat ≤ 281474976710656 := by
         have h2 : ((inf.bytes * m.toNat : Nat) : Int) = (inf.bytes : Int) * m := by rw [Int.natCast_mul, hmm]
         omega
        rw [i3] at h1; exact Nat.le_trans (Nat.le_mul_of_pos_left _ c5) h1
       have r1 := run_make (P := P) w i.t j.t inf j.zero hu i1 i4 .i64 .i64 m m hg'.1 (Int.le_refl _) hb (by omega)
       have hjs : inf.size = 1 := by rw [i2]; exact c8
       rw [hjs, Nat.mul_one] at r1
       have hcells : madeCells j.zero.cells m.toNat = (Array.range m.toNat).map fun _ => (.slice none 0 0 : Value) := by
        unfold madeCells
        apply Array.ext
        ·simp
        ·intro k h1 h2
         simp only [Array.getElem_map, Array.getElem_range]
         have : k % j.zero.cells.size = 0 := by rw [hzsz]; exact Nat.mod_one k
         rw [this]
         have hz0 : j.zero.cells.toList[0]? = some (Value.slice none 0 0) := by rw [hzc]; rfl
         rw [Array.getElem?_toList] at hz0
         simp [getElem!_def, hz0]
       obtain ⟨w', hw'⟩ : ∃ w', w' = w.alloc (.cells (madeCells j.zero.cells m.toNat) j.t) := ⟨_, rfl⟩
       have hfr : Fr w (fun _ => False) w' := by rw [hw']; exact qcv w _
       have hall : ∀ (q : Nat) (v : Value), (madeCells j.zero.cells m.toNat)[q]? = some v → v = .slice none 0 0 := by
        intro q v hv
        rw [hcells, Array.getElem?_map] at hv
        cases hq : (Array.range m.toNat)[q]? with
        | none => rw [hq] at hv; cases hv
        | some z => rw [hq] at hv; injection hv with hv; exact hv.symm
       have hsz : (madeCells j.zero.cells m.toNat).size = m.toNat := by rw [hcells]; simp
       have hob : ObOk0 F w' (.nest j.t (.sl r0) 0 te (List.replicate m.toNat []) none) (.slice (some ⟨w.heap.size, 0, none⟩) m.toNat m.toNat) := by
        have hone : (Ty.sl r0).size = 1 := rfl
        refine ⟨(madeCells j.zero.cells m.toNat).toList, ?_, fun q z hz => ?_, fun i1 j1 v v' g _ _ q1 _ q3 _ => ?_⟩
        ·have hrl : List.length (α := (Ty.sl r0).den) (List.replicate m.toNat []) = m.toNat := List.length_replicate
         rw [hone]
         refine hrl.symm ▸ .of ⟨by rw [Array.length_toList, hsz, Nat.mul_one], .inr ⟨w.heap.size, m.toNat, _, rfl, Nat.zero_le _, by rw [hw']; exact heap_alloc_new w _, Nat.le_refl _, by unfold maxLen; omega, by rw [hsz, Nat.mul_one], by rw [Nat.mul_one]; exact List.take_of_length_le (by rw [Array.length_toList, hsz]; exact Nat.le_refl _)⟩⟩
        ·obtain rfl : z = [] := (List.mem_replicate.1 (List.mem_of_getElem? hz)).2
         have hq : q < m.toNat := Nat.lt_of_lt_of_eq (List.getElem?_eq_some_iff.1 hz).1 List.length_replicate
         rw [hone, Nat.mul_one]
         have hql : q < (madeCells j.zero.cells m.toNat).toList.length := by rw [Array.length_toList, hsz]; exact hq
         refine ⟨rfl, .slice none 0 0, ?_, rfl, fun _ => ⟨⟨[], OwnR.nil _ te r0.size none, fun i x hx => by simp at hx⟩, fun g hg => by cases hg⟩⟩
         rw [List.drop_eq_getElem_cons hql, List.take_succ_cons, List.take_zero]
         have hv := hall q (madeCells j.zero.cells m.toNat).toList[q] (by simp [hsz, hq])
         rw [hv]
        ·have := hall _ v (by simpa using q1)
         subst this; cases q3
       refine ⟨_, _, F, w', .inl ?_, hr.newA hd' c1 hfr hob (fun g hg => by rw [qct hg]; exact Nat.le_refl _), fun _ h => h, fun _ h => .inl h⟩
       simp only [execOp, hxd, r1, Sem.run_bind, Sem.run_pure, Result.andThen_ok]
       rw [hw']
     ·cases h
    ·cases h
   ·cases h
  ·cases h
 ·cases h
/-! ### A map of bound functions is asked -/
def qei : List (List UInt8 × List Int × Nat) → List UInt8 → Nat
 | [], _ => 0
 | q :: r, y => bif q.1 == y then 1 else bif Nat.beq (qei r y) 0 then 0 else qei r y + 1
def dispN (l : List (List UInt8 × List Int × Nat)) (j : Nat) : Nat → Int
 | 0 => 0
 | x + 1 => match l[x]? with
  | some q => q.2.1.getD j 0
  | none => 0
def qj0 (l : List (List UInt8 × List Int × Nat)) : List Nat := l.map fun q => q.2.2
def qol (l : List (List UInt8 × List Int × Nat)) (n x b : Nat) : SV := .agg ((List.range n).map (fun j => SV.i (dispN l j x)) ++ [.bfl (qj0 l) x b])
def qfF : List (List UInt8 × List Int × Nat) → Bool
 | [] => true
 | q :: r => r.all (fun p => !(p.1 == q.1)) && qfF r
def dispZ : Nat → List Value → Bool
 | 0, [.nilFunc] => true
 | n + 1, .int .i64 z :: r => decide (z = 0) && dispZ n r
 | _, _ => false
def qlU (n : Nat) : Value → Bool
 | .agg ⟨l⟩ => dispZ n l
 | _ => false
def qp8 (Γ : List TI) (t : TypeId) (n : Nat) : Option (TI × TI) :=
 match look Γ t with
 | some i => match i.desc with
  | .map kt et => match look Γ kt, look Γ et with
   | some kj, some ej => bif keyOk Γ kj && decide (kj.τ = .str) && qlU n ej.zero then some (kj, ej) else none
   | _, _ => none
  | _ => none
 | none => none
def qcm : List (List UInt8 × List Int × Nat) → Nat
 | [] => 0
 | q :: _ => q.2.1.length
def qom (Γ : List TI) (st : St) (t : TypeId) (x ix : Operand) : Bool → Option VR
 | true => match st.ev x, (st.ev ix).dat .str with
  | .disp l b, some y => match qp8 Γ t (qcm l) with
   | some _ => bif qfF l && l.all (fun q => Nat.beq q.2.1.length (qcm l)) then some ⟨true, qaa x ++ qaa ix, .tup [qol l (qcm l) (qei l y) b, .b (!Nat.beq (qei l y) 0)]⟩ else none
   | none => none
  | _, _ => none
 | false => none
theorem qhn : ∀ {l : List (List UInt8 × List Int × Nat)} {y : List UInt8}, (∀ q ∈ l, q.1 ≠ y) → qei l y = 0
 | [], _, _ => rfl
 | q :: r, y, h => by
  have h1 : (q.1 == y) = false := by simpa using h q (by simp)
  unfold qei
  rw [h1, qhn (l := r) fun p hp => h p (by simp [hp])]
  rfl
theorem qho : ∀ {l : List (List UInt8 × List Int × Nat)} {y : List UInt8} {i : Nat} {q : List UInt8 × List Int × Nat}, qfF l = true → l[i]? = some q → q.1 = y → qei l y = i + 1
 | [], _, _, _, _, h, _ => by simp at h
 | p :: r, y, 0, q, _, h, e => by
  injection h with h; subst h
  unfold qei
  rw [show (p.1 == y) = true by simpa using e]
  rfl
 | p :: r, y, i + 1, q, hk, h, e => by
  unfold qfF at hk
  rw [Bool.and_eq_true, List.all_eq_true] at hk
  have hq : r[i]? = some q := by simpa using h
  have h1 := hk.1 q (List.mem_of_getElem? hq)
  have h2 : (p.1 == y) = false := by
   rw [← e]
   cases hb : (p.1 == q.1) with
   | false => rfl
   | true => rw [beq_iff_eq] at hb; simp [hb] at h1
  unfold qei
  rw [h2, qho hk.2 hq e]
  rfl
theorem qon {ps : List (SV × Value)} (h : ∀ p ∈ ps, Den P F w ρ p.1 p.2) (i : Nat) (s : SV) (u : Value) (hs : (ps.map (·.1))[i]? = some s) (hu : (ps.map (·.2))[i]? = some u) : Den P F w ρ s u := by
 rw [List.getElem?_map] at hs hu
 obtain ⟨p, hp, rfl⟩ := Option.map_eq_some_iff.1 hs
 rw [hp] at hu
 injection hu with hu; subst hu
 exact h p (List.mem_of_getElem? hp)
def qhp (l : List (List UInt8 × List Int × Nat)) (n x : Nat) (p : Value) : List Value := (List.range n).map (fun j => (.int .i64 (dispN l j x) : Value)) ++ [qgd (qj0 l) x p]
theorem qmZ {l : List (List UInt8 × List Int × Nat)} {n x b g : Nat} (hb : ρ b = some (.pointer (some ⟨g, 0, none⟩))) : Den P F w ρ (qol l n x b) (.agg (qhp l n x (.pointer (some ⟨g, 0, none⟩))).toArray) := by
 have key : ∀ p ∈ ((List.range n).map (fun j => (SV.i (dispN l j x), (.int .i64 (dispN l j x) : Value))) ++ [(SV.bfl (qj0 l) x b, qgd (qj0 l) x (.pointer (some ⟨g, 0, none⟩)))]), Den P F w ρ p.1 p.2 := by
  intro p hp
  rcases List.mem_append.1 hp with hp | hp
  ·obtain ⟨j, _, rfl⟩ := List.mem_map.1 hp
   exact .v ⟨_, rfl, rfl⟩
  ·obtain rfl := List.mem_singleton.1 hp
   exact .bfl hb
 refine .agg (by simp [qhp]) (fun i s u hs hu => qon key i s u ?_ ?_) (fun u hu => ?_)
 ·simpa [List.map_append, List.map_map, Function.comp_def] using hs
 ·simpa [qhp, List.map_append, List.map_map, Function.comp_def] using hu
 ·rcases List.mem_append.1 hu with hu | hu
  ·obtain ⟨j, _, rfl⟩ := List.mem_map.1 hu; rfl
  ·obtain rfl := List.mem_singleton.1 hu; exact qh8 _ _ _
theorem qlV {l : List (List UInt8 × List Int × Nat)} {p : Value} : ∀ {n : Nat} {vs : List Value}, dispZ n vs = true → vs = (List.replicate n (.int .i64 0 : Value)) ++ [.nilFunc]
 | 0, vs, h => by
  unfold dispZ at h
  split at h
  ·rfl
  ·rename_i e; cases e
  ·cases h
 | n + 1, vs, h => by
  unfold dispZ at h
  split at h
  ·rename_i e; cases e
  ·rename_i m z r e
   injection e with e; subst e
   rw [Bool.and_eq_true, decide_eq_true_eq] at h
   obtain ⟨rfl, h⟩ := h
   rw [qlV (l := l) (p := p) h]; rfl
  ·cases h
theorem qoo {α β : Type} (f : α → β) (d : α) : ∀ (m : List α), m.map f = (List.range m.length).map fun j => f (m.getD j d) := by
 intro m
 apply List.ext_getElem?
 intro i
 rw [List.getElem?_map, List.getElem?_map]
 by_cases h : i < m.length
 ·rw [List.getElem?_range h]
  simp [List.getD, h]
 ·rw [List.getElem?_eq_none (by omega), List.getElem?_eq_none (by simpa using h)]; rfl
def qop (g : Nat) (q : List UInt8 × List Int × Nat) : Value × Value := ((.string ⟨⟨q.1⟩⟩ : Value), (.agg ((q.2.1.map fun n => (.int .i64 n : Value)) ++ [Value.func (.func q.2.2) #[.pointer (some ⟨g, 0, none⟩)] #[]]).toArray : Value))
theorem qoq (hΓ : Tys P Γ) {t : TypeId} {x ix : Operand} {ok : Bool} {r : VR} (h : qom Γ st t x ix ok = some r) : VOk P w0 M N st (.lookup t x ix ok) rty r := by
 cases ok with
 | false => cases h
 | true =>
  simp only [qom] at h
  split at h
  ·rename_i l b y hx hy
   split at h
   ·rename_i jj hm
    obtain ⟨kj, ej⟩ := jj
    cases hc : (qfF l && l.all (fun q => Nat.beq q.2.1.length (qcm l))) with
    | false => rw [hc] at h; cases h
    | true =>
     rw [hc] at h; injection h with h; subst h
     rw [Bool.and_eq_true, List.all_eq_true] at hc
     obtain ⟨hk, hn⟩ := hc
     have m : P.underlying t = some (.map kj.t ej.t) ∧ kj.ok P ∧ keyOk Γ kj = true ∧ kj.τ = .str ∧ qlU (qcm l) ej.zero = true ∧ ej.ok P := by
      unfold qp8 at hm
      split at hm
      ·rename_i i hl
       obtain ⟨hi, rfl⟩ := qab hΓ hl
       split at hm
       ·rename_i kt et hd
        split at hm
        ·rename_i kj' ej' h1 h2
         obtain ⟨hk', rfl⟩ := qab hΓ h1
         obtain ⟨he, rfl⟩ := qab hΓ h2
         cases hcc : (keyOk Γ kj' && decide (kj'.τ = .str) && qlU (qcm l) ej'.zero) with
         | false => rw [hcc] at hm; cases hm
         | true =>
          rw [hcc] at hm; injection hm with hm; injection hm with e1 e2; subst e1 e2
          simp only [Bool.and_eq_true, decide_eq_true_eq] at hcc
          exact ⟨by rw [hi.und, hd], hk', hcc.1.1, hcc.1.2, hcc.2, he⟩
        ·cases hm
       ·cases hm
      ·cases hm
     obtain ⟨m1, m2, m3, m4, m5, m6⟩ := m
     intro st' hag F ρ a w hr dst pos af gd
     have hxd := hr.evx hag (fun _ h => mem_l h) (x := x)
     have hyd := qan hy (hr.evx hag (fun _ h => mem_r h) (x := ix))
     rw [hx] at hxd
     generalize he : a.eval x = u at hxd
     generalize hu0 : a.eval ix = uk at hyd
     obtain ⟨inf, i1, i2, i3, i4⟩ := m6.info
     have hz : ej.zero = .agg (qhp l (qcm l) 0 .nilFunc).toArray := by
      unfold qlU at m5
      split at m5
      ·rename_i zl e
       rw [e, qlV (l := l) (p := .nilFunc) m5]
       congr 1
       unfold qhp
       have : (List.range (qcm l)).map (fun j => (.int .i64 (dispN l j 0) : Value)) = List.replicate (qcm l) (.int .i64 0) := by
        apply List.ext_getElem?
        intro i
        by_cases h : i < qcm l
        ·rw [List.getElem?_map, List.getElem?_range h, List.getElem?_replicate, if_pos h]; rfl
        ·rw [List.getElem?_eq_none (by simpa using h), List.getElem?_eq_none (by simpa using h)]
       rw [this]; rfl
      ·cases m5
     have fin : ∀ (g xx : Nat) (z : Value) (bb : Bool), ρ b = some (.pointer (some ⟨g, 0, none⟩)) → z = .agg (qhp l (qcm l) xx (.pointer (some ⟨g, 0, none⟩))).toArray → bb = !Nat.beq xx 0 → Den P F w ρ (.tup [qol l (qcm l) xx b, .b (!Nat.beq xx 0)]) (.tuple #[z, .bool bb]) := by
      intro g xx z bb hb e1 e2
      subst e1 e2
      refine .tup (vs := [_, _]) rfl fun i s u hs hu => ?_
      match i with
      | 0 => simp at hs hu; subst hs hu; exact qmZ hb
      | 1 => simp at hs hu; subst hs hu; exact .v ⟨_, rfl, rfl⟩
      | i + 2 => simp at hs
     cases hxd with
     | @disp _ _ g mm es clock h1 h2 h3 h4 h5 =>
      obtain ⟨kt, kd, ks, kb, kz, kτ, ke⟩ := kj
      simp only at m4; subst m4
      have hkey : uk = .string ⟨⟨y⟩⟩ := by obtain ⟨cs, q1, q2⟩ := hyd; cases q1; exact q2
      have hks : ∀ e ∈ es.toList, ∃ z, RdV F w .str z e.key := by
       intro e hm
       have hm2 : (e.key, e.val) ∈ es.toList.map (fun e => (e.key, e.val)) := List.mem_map.2 ⟨e, hm, rfl⟩
       have hm3 := h5.mem_iff.1 hm2
       obtain ⟨q, _, hq⟩ := List.mem_map.1 hm3
       injection hq with hq _
       exact ⟨q.1, [.string ⟨⟨q.1⟩⟩], rfl, hq.symm⟩
      have huk := qg8 hΓ m2 m3 hyd
      rcases qee hΓ m2 m3 hyd es.toList hks with ⟨f1, f2⟩ | ⟨j, e, f1, f2, f3⟩
      ·have hrun := qbA (w := w) m1 i1 i4 huk (.inr ⟨mm, clock, rfl, h3⟩) f1 true
       have h0 : qei l y = 0 := qhn fun q hq e => by
        have hm2 : qop g q ∈ es.toList.map (fun e => (e.key, e.val)) := h5.mem_iff.2 (List.mem_map_of_mem (f := qop g) hq)
        obtain ⟨e0, he0, hq0⟩ := List.mem_map.1 hm2
        injection hq0 with hq0 _
        exact f2 e0 he0 (by rw [hq0, hkey, e])
       have hrun' : (Instr.lookup t (.map (some mm)) uk true).run P w = .ok (.tuple #[ej.zero, .bool false]) w := hrun
       refine ⟨.tuple #[ej.zero, .bool false], by simp only [execOp, he, hu0, hrun', Sem.run_bind, Sem.run_pure, Result.andThen_ok], ?_⟩
       rw [h0]
       exact fin g 0 _ _ h1 hz rfl
      ·have hrun := qbA (w := w) m1 i1 i4 huk (.inr ⟨mm, clock, rfl, h3⟩) f1 true
       have hrun' : (Instr.lookup t (.map (some mm)) uk true).run P w = .ok (.tuple #[e.val, .bool true]) w := hrun
       have hm2 : (e.key, e.val) ∈ es.toList.map (fun e => (e.key, e.val)) := List.mem_map.2 ⟨e, List.mem_of_getElem? (by simpa using f2), rfl⟩
       obtain ⟨q, hq0, hqe⟩ := List.mem_map.1 (h5.mem_iff.1 hm2)
       obtain ⟨i, hq⟩ := List.getElem?_of_mem hq0
       injection hqe with q1 q2
       have hy2 : q.1 = y := by
        rw [f3, hkey] at q1
        injection q1 with q1; injection q1 with q1; injection q1
       have h0 : qei l y = i + 1 := qho hk hq hy2
       refine ⟨.tuple #[e.val, .bool true], by simp only [execOp, he, hu0, hrun', Sem.run_bind, Sem.run_pure, Result.andThen_ok], ?_⟩
       rw [h0]
       refine fin g (i + 1) _ _ h1 ?_ rfl
       have hql := Nat.eq_of_beq_eq_true (hn q hq0)
       show e.val = _
       rw [← q2, qoo _ 0 q.2.1, hql]
       congr 2
       unfold qhp
       congr 1
       ·refine List.map_congr_left fun k hk => ?_
        show _ = Value.int .i64 (match l[i]? with | some q => q.2.1.getD k 0 | none => 0)
        rw [hq]
       ·unfold qgd fnAt qj0
        simp only [List.getElem?_map, hq, Option.map_some]
   ·cases h
  ·cases h
def qk5 (Γ : List TI) (st : St) : Op → Option VR
 | .indexAddr t x ix => qod Γ st t x ix
 | .call ⟨.builtin .len, ⟨[x]⟩, ⟨[t]⟩⟩ => qof Γ st t x
 | .lookup t x ix ok => qom Γ st t x ix ok
 | _ => none
theorem qm0 (hΓ : Tys P Γ) {op : Op} {r : VR} (h : qk5 Γ st op = some r) (hg : r.g = true) : VOk P w0 M N st op rty r := by
 unfold qk5 at h
 split at h
 ·exact qoe hΓ h hg
 ·exact qog hΓ h
 ·exact qoq hΓ h
 ·cases h
def qk6 (Γ : List TI) (ow : List Nat) (st : St) (N : Nat) (dst : Option Nat) : Op → Option MR
 | .load t x => match dst with
  | some d => qk2 Γ st N d t x
  | none => none
 | .store t x y => match dst with
  | none => qiU Γ st t x y
  | some _ => none
 | .call ⟨.builtin .append, ⟨[x, y]⟩, ⟨[t, t2]⟩⟩ => match dst with
  | some d => qoh Γ st N d t t2 x y
  | none => none
 | .buildSlice t len ⟨parts⟩ => match dst with
  | some d => qoj Γ ow st N d t len parts
  | none => none
 | .makeSlice t x y => match dst with
  | some d => qk4 Γ ow st N d t x y
  | none => none
 | _ => none
theorem qm1 (hΓ : Tys P Γ) {ow : List Nat} {dst : Option Nat} {op : Op} {r : MR} (h : qk6 Γ ow st N dst op = some r) (hg : r.g = true) : MOk P w0 M N F0 ops st dst op rty r := by
 unfold qk6 at h
 split at h
 all_goals first | (cases h; done) | (split at h <;> first | (cases h; done) | skip)
 ·exact qmX hΓ h
 ·exact qk3 hΓ h hg
 ·exact qoi hΓ h hg
 ·exact qok hΓ h
 ·exact qmY hΓ h hg
/-! ### Rows that are only read from now on -/
def ownsS : SV → List Nat
 | .own b => [b]
 | .agg cs => cs.flatMap used1
 | _ => []
def qk7 (st : St) : Op → List Nat
 | .call ⟨_, ⟨xs⟩, _⟩ => xs.flatMap fun x => ownsS (st.ev x)
 | _ => []
def qcS (st : St) : List Nat → List Wr
 | [] => []
 | b :: r => match st.a b with
  | some (.nest ty e _ _ l none) => .a b (some (.arr ty e l)) :: qcS (st.put (.a b (some (.arr ty e l)))) r
  | _ => qcS st r
theorem qej : ∀ {l : List Nat} {st st' : St}, (∀ b ∈ l, st.a b = st'.a b) → qcS st l = qcS st' l
 | [], _, _, _ => rfl
 | b :: r, st, st', h => by
  unfold qcS
  rw [h b (by simp)]
  split
  ·rw [qej (l := r) fun b' hb' => ?_]
   show (bif Nat.beq b' b then _ else st.a b') = (bif Nat.beq b' b then _ else st'.a b')
   rw [h b' (by simp [hb'])]
  ·exact qej fun b' hb' => h b' (by simp [hb'])
theorem qhq : ∀ {l : List Nat} {st : St}, Rel P w0 M N F0 st a w → Rel P w0 M N F0 (st.app (qcS st l)) a w
 | [], _, h => h
 | b :: r, st, h => by
  unfold qcS
  split
  ·rename_i ty e o te l hA
   refine qhq (l := r) (st := st.put (.a b (some (.arr ty e l)))) ?_
   obtain ⟨F, ρ, h, hF⟩ := h
   obtain ⟨h1, h2⟩ := h.close hA
   exact ⟨_, _, h1, fun g hg => .inl (hF.1 g hg), fun g hg => hg.elim (hF.2 g) fun hg => .inr (h2 g hg)⟩
  ·exact qhq h
theorem RT.close {o : Oper} {rd : List Key} {wr : List Wr} {l : List Nat} (h : RT P w0 M N F0 ops o (st.app (qcS st l)) rd wr) : RT P w0 M N F0 ops o st (l.map .a ++ rd) (qcS st l ++ wr) := by
 intro st' hag a w hr
 have he : qcS st l = qcS st' l := qej fun b hb => hag (.a b) (mem_l (List.mem_map.2 ⟨b, hb, rfl⟩))
 have hr2 : Rel P w0 M N F0 (st'.app (qcS st l)) a w := by rw [he]; exact qhq hr
 have h1 := h (st'.app (qcS st l)) (fun κ hκ => qdu _ (hag κ (mem_r hκ))) a w hr2
 rw [qaw]
 exact h1
end
end Go.Sq
