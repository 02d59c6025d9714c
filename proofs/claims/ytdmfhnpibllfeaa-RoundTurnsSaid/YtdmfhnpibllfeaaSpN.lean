/- The engine, part N: append, make, whole elements, and an array that is only read from now on. No condition. -/
import Derived.Test.YtdmfhnpibllfeaaSpM
namespace Go.Sp
open Go Go.RowKit

/-- An element type's row of the table: zero, cells, bytes. -/
def infoE (P : Program) (e k bytes : Nat) (zv : Value) : Prop := (P.info? e).map (fun i => (i.zero, i.size, i.bytes)) = some (some zv, k, bytes) ∧ zv.cells.size = k ∧ 0 < k

section
variable {P : Program} {w0 : World} {M : Mod} {N : Nat} {F0 : Nat → Prop} {ops : Array Oper}
variable {F : Nat → Prop} {ρ : Env} {st : St} {a : Act} {w : World}
variable {d : Nat} {x y z : Operand} {ty ty' : TypeId} {pos : String} {af : Array Edge}

theorem append_cases (t ty e : TypeId) (k bytes : Nat) (zv : Value) (ht : P.underlying t = some (.slice e)) (hI : infoE P e k bytes zv)
    (v : Value) (n : Nat) (xs : List Value) (hown : w.ownsRow 0 e k v n xs)
    (ad : Addr) (m c : Nat) (news : List Value) (hl : news.length = m * k) (hnews : ∀ j u, news[j]? = some u → w.cell? (ad.add j) = some u) (h1 : ∀ u ∈ news, u.oneCell' = true)
    (h63 : n + m ≤ maxLen) (hbytes : (n + m) * bytes ≤ 140737488355328) :
    ∃ v' w', (Builtin.append_ #[t, t] ty #[v, .slice (some ad) m c]).run P w = .ok v' w' ∧ w'.ownsRow 0 e k v' (n + m) (xs ++ news) ∧ w.grownBy w' v.ownBlock ∧
      (v'.ownBlock = v.ownBlock ∨ ∀ g, v'.ownBlock = some g → w.heap.size ≤ g) := by
  obtain ⟨hI, hzs, hsz⟩ := hI
  obtain ⟨i, hi, hz, hsize, hby⟩ := info_parts hI
  subst hsize
  subst hby
  have hsmall : n + m ≤ 9223372036854775807 := by simp only [maxLen] at h63; omega
  have hlen : (xs ++ news).length = (n + m) * i.size := by rw [List.length_append, hown.1, hl, Nat.add_mul]
  have grown : ∀ (old : Nat), old < n + m → ∀ (row : Option Nat),
      (w.drew.alloc (.cells (xs.toArray ++ news.toArray ++ Builtin.zeroCells zv.cells (grownCap w (n + m) old e - (n + m))) e)).ownsRow 0 e i.size
        (.slice (some ⟨w.heap.size, 0, none⟩) (n + m) (grownCap w (n + m) old e)) (n + m) (xs ++ news) ∧
      w.grownBy (w.drew.alloc (.cells (xs.toArray ++ news.toArray ++ Builtin.zeroCells zv.cells (grownCap w (n + m) old e - (n + m))) e)) row := by
    intro old ho row
    have hge := grownCap_ge w (n + m) old e
    have hcm : grownCap w (n + m) old e ≤ maxLen := grownCap_le_maxLen w (n + m) old e h63
    refine ⟨⟨hlen, .inr ⟨w.heap.size, _, _, rfl, Nat.zero_le _, heap_alloc_new w.drew _, hge, hcm, ?_, ?_⟩⟩, ⟨rfl, rfl, rfl, by simp, fun k hk _ => Below.heap_alloc w.drew _ k hk⟩⟩
    · simp only [Array.size_append, List.size_toArray, size_zeroCells, hzs, hown.1, hl, ← Nat.add_mul]
      congr 1
      omega
    · simp only [Array.toList_append, List.append_assoc]
      rw [← List.append_assoc, ← hlen]
      exact List.take_left
  rcases hown.2 with ⟨rfl, rfl⟩ | ⟨g, cap, cur, rfl, hbg, hg, hnc, hcm, hcs, htake⟩
  · have hx : xs = [] := List.eq_nil_of_length_eq_zero (by simpa using hown.1)
    subst hx
    by_cases hm : m = 0
    · subst hm
      have hn : news = [] := List.eq_nil_of_length_eq_zero (by simpa using hl)
      subst hn
      refine ⟨.slice none 0 0, w, ?_, World.ownsRow_nil w 0 e i.size, ⟨rfl, rfl, rfl, Nat.le_refl _, fun _ _ _ => rfl⟩, .inl rfl⟩
      simp [Builtin.append_, run_underlying ht, sizeOf, typeInfo, hi, Builtin.lenOf, Builtin.firstCells, loadCells, loadCellsFrom]
    · have hr := run_append_nil (P := P) w t ty e i zv ht hi hz ad m c news hl hnews (by omega) (by omega) (by have hb := hbytes; simp only [Nat.zero_add] at hb; omega)
      have hgr := grown 0 (by omega) (Value.ownBlock (.slice none 0 0))
      simp only [Nat.zero_add, List.nil_append, Array.empty_append] at hgr ⊢
      exact ⟨_, _, hr, hgr.1, hgr.2, .inr (fun g hg => by simp [Value.ownBlock] at hg; omega)⟩
  · by_cases hroom : n + m ≤ cap
    · have hfit : n * i.size + news.length ≤ cur.size := by rw [hl, hcs, ← Nat.add_mul]; exact Nat.mul_le_mul_right _ hroom
      have hr := run_append_room (P := P) w t ty e i ht hi g n cap cur hg ad m c news hl hnews h1 hroom hfit
      refine ⟨_, _, hr, ⟨hlen, .inr ⟨g, cap, _, rfl, hbg, setRow_heap w g cur _ e _ hg, hroom, hcm, ?_, ?_⟩⟩, ⟨rfl, rfl, rfl, by simp, fun k _ hk => setRow_other w g k _ (fun e => hk (by simp [Value.ownBlock, e]))⟩, .inl rfl⟩
      · simp only [List.size_toArray, List.length_append, List.length_take, List.length_drop, Array.length_toList]
        omega
      · rw [htake, ← hlen]
        exact List.take_left
    · have holds : ∀ j u, xs[j]? = some u → w.cell? ((⟨g, 0, none⟩ : Addr).add j) = some u := hown.cells (g := g) rfl
      have hr := run_append_grow (P := P) w t ty e i zv ht hi hz ⟨g, 0, none⟩ n cap xs hown.1 holds ad m c news hl hnews (by omega) (by omega) (growslice_fits (by omega) hbytes)
      have hgr := grown cap (by omega) (Value.ownBlock (.slice (some ⟨g, 0, none⟩) n cap))
      exact ⟨_, _, hr, hgr.1, hgr.2, .inr (fun g' hg' => by simp [Value.ownBlock] at hg'; omega)⟩

theorem append_nil (t ty e : TypeId) (k bytes : Nat) (zv : Value) (ht : P.underlying t = some (.slice e)) (hI : infoE P e k bytes zv)
    (v : Value) (n : Nat) (xs : List Value) (hown : w.ownsRow 0 e k v n xs) (c : Nat) : (Builtin.append_ #[t, t] ty #[v, .slice none 0 c]).run P w = .ok v w := by
  obtain ⟨hI, _⟩ := hI
  obtain ⟨i, hi, _⟩ := info_parts hI
  rcases hown.2 with ⟨rfl, rfl⟩ | ⟨g, cap, cur, rfl, _, _, hnc, _⟩
  · simp [Builtin.append_, run_underlying ht, sizeOf, typeInfo, hi, Builtin.lenOf, Builtin.firstCells]
  · simp [Builtin.append_, run_underlying ht, sizeOf, typeInfo, hi, Builtin.lenOf, Builtin.firstCells, hnc, storeCells]

/-- The news of an append: values that lie in a row. -/
def News (F : Nat → Prop) (w : World) (k m : Nat) (g : Nat → Nat → SV) (v : Value) : Prop :=
  (∃ c, v = .slice none 0 c ∧ m = 0) ∨ ∃ (ad : Addr) (c : Nat) (news : List Value), v = .slice (some ad) m c ∧ news.length = m * k ∧ (∀ j u, news[j]? = some u → w.cell? (ad.add j) = some u ∧ u.oneCell' = true) ∧
    ∀ i j, i < m → j < k → ∃ u, news[i * k + j]? = some u ∧ Den F w Env.none (g i j) u

theorem News.sl {k m : Nat} {g : Nat → Nat → SV} {v : Value} (hk : 0 < k) (h : Den F w ρ (.sl k m g) v) : News F w k m g v := by
  cases h with
  | nilsl => exact .inl ⟨_, rfl, rfl⟩
  | sl cell a1 a2 a3 a4 a5 a6 =>
    rename_i ad cap
    have hin : ∀ j, j < m * k → j / k < m ∧ j % k < k ∧ j = (j / k) * k + j % k := fun j hj =>
      ⟨Nat.div_lt_of_lt_mul (by rw [Nat.mul_comm]; exact hj), Nat.mod_lt _ hk, by rw [Nat.mul_comm]; exact (Nat.div_add_mod j k).symm⟩
    refine .inr ⟨ad, cap, (List.range (m * k)).map fun j => cell (j / k) (j % k), rfl, by simp, fun j u hu => ?_, fun i j hi hj => ?_⟩
    · have hj : j < m * k := by simpa using (List.getElem?_eq_some_iff.1 hu).1
      obtain ⟨q1, q2, q3⟩ := hin j hj
      simp [hj] at hu
      subst hu
      refine ⟨?_, a5 _ _ q1 q2⟩
      have := a4 _ _ q1 q2
      rwa [← q3] at this
    · have hlt : i * k + j < m * k := by
        have := Nat.mul_le_mul_right k (show i + 1 ≤ m from hi)
        rw [Nat.add_mul, Nat.one_mul] at this; omega
      have e1 : (i * k + j) / k = i := by rw [Nat.mul_comm, Nat.mul_add_div hk, Nat.div_eq_of_lt hj, Nat.add_zero]
      have e2 : (i * k + j) % k = j := by rw [Nat.mul_comm, Nat.mul_add_mod, Nat.mod_eq_of_lt hj]
      exact ⟨cell i j, by simp [hlt, e1, e2], a6 i j hi hj⟩

theorem News.own (h : MemOk F w ρ st) {b : Nat} {A : Arr} {v : Value} (hA : st.a b = some A) (hρ : ρ b = some v) : News F w A.k A.n A.g v := by
  obtain ⟨v', xs, a1, a2, a3⟩ := h.arr b A hA
  rw [hρ] at a1; injection a1 with a1; subst a1
  rcases a2.2 with ⟨rfl, hn⟩ | ⟨g, cap, cur, rfl, _, hcur, _, _, hcs, htake⟩
  · exact .inl ⟨_, rfl, hn⟩
  · refine .inr ⟨⟨g, 0, none⟩, cap, xs, rfl, a2.1, fun j u hu => ⟨a2.cells (g := g) rfl j u hu, ?_⟩, fun i j hi hj => ?_⟩
    · have hj : j < A.n * A.k := by rw [← a2.1]; exact (List.getElem?_eq_some_iff.1 hu).1
      by_cases hk : A.k = 0
      · rw [hk] at hj; simp at hj
      · have hk : 0 < A.k := by omega
        obtain ⟨x, c1, _, c3⟩ := a3 (j / A.k) (j % A.k) (Nat.div_lt_of_lt_mul (by rw [Nat.mul_comm]; exact hj)) (Nat.mod_lt _ hk)
        rw [show j / A.k * A.k + j % A.k = j by rw [Nat.mul_comm]; exact Nat.div_add_mod j A.k] at c1
        rw [hu] at c1; injection c1 with c1; subst c1; exact c3
    · obtain ⟨x, c1, c2, _⟩ := a3 i j hi hj
      exact ⟨x, c1, c2⟩

theorem appendArr {α : Type} {cell : α → Nat → SV} {d0 : α} {l l2 : List α} {e k bytes b m : Nat} {zv v u : Value} {t : TypeId} (h : Rel' w0 M N F ρ st a w) (hd : d < N) (ht : P.underlying t = some (.slice e)) (hI : infoE P e k bytes zv)
    (hA : st.a b = some (arrOf e k cell d0 l)) (hρ : ρ b = some v) (hf : st.d d = false) (hn : News F w k m (fun i j => cell (l2.getD i d0) j) u) (hm : m = l2.length) (hb : (l.length + l2.length) * bytes ≤ 140737488355328 ∧ l.length + l2.length ≤ 9223372036854775807) :
    ∃ v' w', (Builtin.append_ #[t, t] ty #[v, u]).run P w = .ok v' w' ∧ Rel' w0 M N F (ρ.set d v') (st.app [.a b none, .d d, .a d (some (arrOf e k cell d0 (l ++ l2))), .r d (.own d)]) (a.put (some d) v') w' := by
  subst hm
  obtain ⟨v0, xs, a1, a2, a3⟩ := h.mem.arr b _ hA
  rw [hρ] at a1; injection a1 with a1; subst a1
  have hdrop := h.dropArr b
  have hgl : ∀ i j, (arrOf e k cell d0 (l ++ l2)).g i j = if i < l.length then cell (l.getD i d0) j else cell (l2.getD (i - l.length) d0) j := by
    intro i j
    show cell ((l ++ l2).getD i d0) j = _
    by_cases hi : i < l.length
    · rw [if_pos hi]; simp [List.getD_eq_getElem?_getD, List.getElem?_append_left hi]
    · rw [if_neg hi]; simp [List.getD_eq_getElem?_getD, List.getElem?_append_right (Nat.le_of_not_lt hi)]
  rcases hn with ⟨c, rfl, hl0⟩ | ⟨ad, c, news, rfl, n1, n2, n3⟩
  · have hl2 : l2 = [] := List.eq_nil_of_length_eq_zero hl0
    subst hl2
    refine ⟨v, w, append_nil t ty e k bytes zv ht hI v l.length xs a2 c, ?_⟩
    rw [List.append_nil]
    exact hdrop.addArr (b := d) (A := arrOf e k cell d0 l) (xs := xs) hf hd a2 (h.mem.one b v hρ) a3 (fun g hg => arr_alone h hA hρ hg)
  · obtain ⟨v', w', r1, r2, r3, r4⟩ := append_cases (w := w) t ty e k bytes zv ht hI v l.length xs a2 ad l2.length c news n1 (fun j u hu => (n2 j u hu).1) (fun u hu => by
      obtain ⟨j, hj⟩ := List.getElem?_of_mem hu
      exact (n2 j u hj).2) hb.2 hb.1
    refine ⟨v', w', r1, ?_⟩
    have halone : ∀ g, v.ownBlock = some g → _ := fun g hg => arr_alone h hA hρ (own_blk hg)
    have h0 := hdrop.growRow r3 halone
    have up : ∀ {s x}, Den F w Env.none s x → Den F w' Env.none s x := fun hd => hd.stay fun g hF => r3.block g (h.mem.fb g hF) (fun e => (halone g e.symm).1 hF)
    have hone : v'.oneCell' = true := by rcases r2.2 with ⟨rfl, _⟩ | ⟨g, cap, cur, rfl, _⟩ <;> rfl
    refine h0.addArr (b := d) (A := arrOf e k cell d0 (l ++ l2)) (xs := xs ++ news) hf hd (by
      show w'.ownsRow 0 e k v' (l ++ l2).length _
      rw [List.length_append]; exact r2) hone ?_ ?_
    · intro i j hi hj
      have hi : i < l.length + l2.length := by rw [← List.length_append]; exact hi
      have hj : j < k := hj
      show ∃ x, (xs ++ news)[i * k + j]? = some x ∧ _
      rw [hgl]
      have hxl : xs.length = l.length * k := a2.1
      by_cases hil : i < l.length
      · rw [if_pos hil]
        obtain ⟨x, c1, c2, c3⟩ := a3 i j hil hj
        have hlt : i * k + j < xs.length := (List.getElem?_eq_some_iff.1 c1).1
        exact ⟨x, by rw [List.getElem?_append_left hlt]; exact c1, up c2, c3⟩
      · rw [if_neg hil]
        obtain ⟨x, c1, c2⟩ := n3 (i - l.length) j (by omega) hj
        have hge : xs.length ≤ i * k + j := by rw [hxl]; have := Nat.mul_le_mul_right k (Nat.le_of_not_lt hil); omega
        have heq : i * k + j - xs.length = (i - l.length) * k + j := by
          rw [hxl, Nat.sub_mul]; have := Nat.mul_le_mul_right k (Nat.le_of_not_lt hil); omega
        exact ⟨x, by rw [List.getElem?_append_right hge, heq]; exact c1, up c2, (n2 _ _ c1).2⟩
    · intro g hg
      have hg' : v'.ownBlock = some g := by
        rcases r2.2 with ⟨rfl, _⟩ | ⟨g', cap, cur, rfl, _⟩
        · cases hg
        · simpa [Value.ownBlock, blkOf] using hg
      rcases r4 with r4 | r4
      · rw [r4] at hg'; exact halone g hg'
      · have hge := r4 g hg'
        refine ⟨fun hF => absurd (h.mem.fb g hF) (by omega), .inr (Nat.le_trans h.fr.size hge), fun b' u hp hu e => ?_⟩
        have := hdrop.mem.lt hp hu e
        omega

theorem rd_appendO {α : Type} {cell : α → Nat → SV} {d0 : α} {l l2 : List α} {e k bytes b : Nat} {zv : Value} {t : TypeId} (hd : d < N) (ht : P.underlying t = some (.slice e)) (hI : infoE P e k bytes zv) :
    RTD P w0 M N F0 ops ⟨some d, .call { callee := .builtin .append, args := #[x, y], argTypes := #[t, t] }, ty, pos, af, none⟩
      (fun st => Ev st x (.own b) ∧ st.a b = some (arrOf e k cell d0 l) ∧ Ev st y (slOf k cell d0 l2) ∧ st.d d = false ∧ ((l.length + l2.length) * bytes ≤ 140737488355328 ∧ l.length + l2.length ≤ 9223372036854775807))
      (opKeys x ++ ([.a b] ++ (opKeys y ++ ([.d d] ++ [])))) [.a b none, .d d, .a d (some (arrOf e k cell d0 (l ++ l2))), .r d (.own d)] := by
  refine ⟨RT.stepW rfl ?_, (Dep.ev x _).and ((Dep.a b _).and ((Dep.ev y _).and ((Dep.d d _).and (Dep.pure _))))⟩
  rintro st ⟨h1, h2, h3, h4, h5⟩ F ρ a w h
  have h6 := h.eval h1
  have h7 := h.eval h3
  generalize hx : a.eval x = v at h6
  generalize hy : a.eval y = u at h7
  cases h6 with
  | own hρ =>
    obtain ⟨v', w', r1, r2⟩ := appendArr (P := P) (ty := ty) h hd ht hI h2 hρ h4 (News.sl hI.2.2 h7) rfl h5
    refine ⟨v', _, w', .inl ?_, r2⟩
    simp only [execOp, resolve, invoke, builtin, Sem.run_bind, Sem.run_pure, Result.andThen_ok, List.map_toArray, List.map_cons, List.map_nil, hx, hy, r1]

theorem rd_appendOO {α : Type} {cell : α → Nat → SV} {d0 : α} {l l2 : List α} {e k bytes b b2 : Nat} {zv : Value} {t : TypeId} (hd : d < N) (ht : P.underlying t = some (.slice e)) (hI : infoE P e k bytes zv) :
    RTD P w0 M N F0 ops ⟨some d, .call { callee := .builtin .append, args := #[x, y], argTypes := #[t, t] }, ty, pos, af, none⟩
      (fun st => Ev st x (.own b) ∧ st.a b = some (arrOf e k cell d0 l) ∧ Ev st y (.own b2) ∧ st.a b2 = some (arrOf e k cell d0 l2) ∧ st.d d = false ∧ ((l.length + l2.length) * bytes ≤ 140737488355328 ∧ l.length + l2.length ≤ 9223372036854775807))
      (opKeys x ++ ([.a b] ++ (opKeys y ++ ([.a b2] ++ ([.d d] ++ []))))) [.a b none, .d d, .a d (some (arrOf e k cell d0 (l ++ l2))), .r d (.own d)] := by
  refine ⟨RT.stepW rfl ?_, (Dep.ev x _).and ((Dep.a b _).and ((Dep.ev y _).and ((Dep.a b2 _).and ((Dep.d d _).and (Dep.pure _)))))⟩
  rintro st ⟨h1, h2, h3, h3', h4, h5⟩ F ρ a w h
  have h6 := h.eval h1
  have h7 := h.eval h3
  generalize hx : a.eval x = v at h6
  generalize hy : a.eval y = u at h7
  cases h6 with
  | own hρ =>
    cases h7 with
    | own hρ2 =>
      obtain ⟨v', w', r1, r2⟩ := appendArr (P := P) (ty := ty) h hd ht hI h2 hρ h4 (News.own h.mem h3' hρ2) rfl h5
      refine ⟨v', _, w', .inl ?_, r2⟩
      simp only [execOp, resolve, invoke, builtin, Sem.run_bind, Sem.run_pure, Result.andThen_ok, List.map_toArray, List.map_cons, List.map_nil, hx, hy, r1]

end
end Go.Sp
