/- The law AllocateMade. No condition. -/
import Derived.Test.YtmleldfhkangbaaAm0
import Derived.Test.YtmleldfhkangbaaPd4
namespace Go.Proofs.Ytmleldfhkangbaa
open Go Go.Sq

/-! ### What is measured -/
theorem meas_L0 (l : List Ent) (s v : Int) : allocate_Measured_L0 l s v = ref38_Measured_L0 l s v := by
  unfold allocate_Measured_L0 ref38_Measured_L0
  cases h1 : decide (v < (l.length : Int)) with
  | false => rfl
  | true =>
    simp only [cond_true]
    cases h2 : inB v l.length with
    | false => rfl
    | true =>
      simp only [gd_tt]
      rw [show allocate_Entry ((l.getD v.toNat ([], (0, 0))).1, ((l.getD v.toNat ([], (0, 0))).2.1, (l.getD v.toNat ([], (0, 0))).2.2)) = some (entP (l.getD v.toNat ([], (0, 0)))) from ent_eq _, rright_eq]
theorem meas_both (l : List Ent) : ∃ r, allocate_Measured l = some r ∧ ref38_Measured l = some r := by
  have e : allocate_Measured l = ref38_Measured l := by
    unfold allocate_Measured ref38_Measured
    rw [show (fun x : Int × Int => allocate_Measured_L0 l x.1 x.2) = (fun x : Int × Int => ref38_Measured_L0 l x.1 x.2) from funext fun x => meas_L0 l x.1 x.2]
  have h : Ok (allocate_Measured l) fun _ => True := by
    unfold allocate_Measured
    refine Ok.bif (fun _ => Ok.ret trivial) fun hl => ?_
    have hl := of_decide_eq_false hl
    refine Ok.bind (Q := fun _ => True) ?_ fun s _ => Ok.elim (fun _ _ => Ok.ret trivial) fun _ _ => Ok.ret trivial
    refine Ok.loop (fun x => ∃ i : Nat, x.2 = (i : Int) ∧ i ≤ l.length) (fun x => ((l.length : Int) - x.2).toNat) ⟨0, rfl, by omega⟩ ?_
    rintro ⟨s, v⟩ ⟨i, rfl, h1⟩
    unfold allocate_Measured_L0
    refine Ok.bif (fun hi => ?_) fun _ => Ok.ret trivial
    have hi := of_decide_eq_true hi
    refine Ok.gd (inB_t (by omega)) ?_
    rw [show allocate_Entry ((l.getD (i : Int).toNat ([], (0, 0))).1, ((l.getD (i : Int).toNat ([], (0, 0))).2.1, (l.getD (i : Int).toNat ([], (0, 0))).2.2)) = some (entP (l.getD (i : Int).toNat ([], (0, 0)))) from ent_eq _]
    refine Ok.eq rfl (Ok.bif (fun _ => Ok.ret trivial) fun _ => ?_)
    refine Ok.bind (Q := fun _ => True) (Ok.bif (fun _ => Ok.ret trivial) fun _ => Ok.bind (Q := fun _ => True) (Ok.bif (fun _ => Ok.ret trivial) fun _ => Ok.ret trivial) fun _ _ => Ok.bind (Q := fun _ => True) (Ok.bif (fun _ => Ok.ret trivial) fun _ => Ok.ret trivial) fun _ _ => Ok.ret trivial) fun s3 _ => ?_
    refine Ok.ret ?_
    simp only
    rw [wi (by omega)]
    exact ⟨⟨i + 1, rfl, by omega⟩, by omega⟩
  obtain ⟨r, h1, _⟩ := h
  exact ⟨r, h1, by rw [← e]; exact h1⟩
theorem meas_len {l : List Ent} {r : Int × Int} (h : allocate_Measured l = some r) (h0 : r.2 = 0) : l.length ≤ 1000 := by
  rcases Nat.lt_or_ge 1000 l.length with h1 | h1
  · unfold allocate_Measured at h
    rw [dec_t (show (1000 : Int) < (l.length : Int) by omega)] at h
    injection h with h; subst h; cases h0
  · exact h1

/-! ### Maps of texts -/
theorem sget_cons (p : List UInt8 × Int) (r : List (List UInt8 × Int)) (x : List UInt8) : mget keyS (p :: r) x = if x = p.1 then some p.2 else mget keyS r x := by
  show (bif decide (x = p.1) then _ else _) = _
  by_cases h : x = p.1
  · rw [dec_t h, if_pos h]; rfl
  · rw [dec_f h, if_neg h]; rfl
theorem sdel_cons (p : List UInt8 × Int) (r : List (List UInt8 × Int)) (x : List UInt8) : mdel keyS (p :: r) x = if x = p.1 then r else p :: mdel keyS r x := by
  show (bif decide (x = p.1) then _ else _) = _
  by_cases h : x = p.1
  · rw [dec_t h, if_pos h]; rfl
  · rw [dec_f h, if_neg h]; rfl
theorem sget_no {l : List (List UInt8 × Int)} {x : List UInt8} (h : ∀ q ∈ l, q.1 ≠ x) : mget keyS l x = none := by
  induction l with
  | nil => rfl
  | cons p r ih => rw [sget_cons, if_neg (fun e => h p (by simp) e.symm), ih fun q hq => h q (by simp [hq])]
abbrev KN (l : List (List UInt8 × Int)) : Prop := (l.map (·.1)).Nodup
theorem sdel_sub {l : List (List UInt8 × Int)} {x : List UInt8} : (mdel keyS l x).Sublist l := by
  induction l with
  | nil => exact List.Sublist.slnil
  | cons p r ih =>
    rw [sdel_cons]
    split
    · exact List.sublist_cons_self p r
    · exact ih.cons_cons p
theorem sdel_get {l : List (List UInt8 × Int)} (h : KN l) (x s : List UInt8) : mget keyS (mdel keyS l x) s = if s = x then none else mget keyS l s := by
  induction l with
  | nil => show none = _; split <;> rfl
  | cons p r ih =>
    obtain ⟨h1, h2⟩ := List.nodup_cons.1 h
    have h1 : ∀ q ∈ r, q.1 ≠ p.1 := fun q hq e => h1 (List.mem_map.2 ⟨q, hq, e⟩)
    rw [sdel_cons, sget_cons]
    by_cases hx : x = p.1
    · rw [if_pos hx]
      by_cases hs : s = x
      · rw [if_pos hs, hs, hx]; exact sget_no h1
      · rw [if_neg hs, if_neg (fun e => hs (by rw [e, hx]))]
    · rw [if_neg hx, sget_cons, ih h2]
      by_cases hs : s = x
      · rw [if_pos hs, if_neg (fun e => hx (by rw [← hs, e])), if_pos hs]
      · rw [if_neg hs, if_neg hs]
theorem sins_get {l : List (List UInt8 × Int)} {x : List UInt8} (hx : ∀ q ∈ l, q.1 ≠ x) (y : Int) (s : List UInt8) : mget keyS (mins keyS l x y) s = if s = x then some y else mget keyS l s := by
  induction l with
  | nil => show mget keyS [(x, y)] s = _; rw [sget_cons]
  | cons p r ih =>
    have hp := hx p (by simp)
    have e : mins keyS (p :: r) x y = bif keyS.lt x p.1 then (x, y) :: p :: r else p :: mins keyS r x y := rfl
    rw [e]
    cases keyS.lt x p.1 with
    | true => simp only [cond_true]; rw [sget_cons]
    | false =>
      simp only [cond_false]
      rw [sget_cons, ih fun q hq => hx q (by simp [hq]), sget_cons]
      by_cases hs : s = x
      · rw [if_pos hs, if_neg (fun e => hp (by rw [← e, hs])), if_pos hs]
      · rw [if_neg hs, if_neg hs]
theorem sput_ok {l : List (List UInt8 × Int)} (h : KN l) (x : List UInt8) (y : Int) : KN (mput keyS l x y) ∧ ∀ s, mget keyS (mput keyS l x y) s = if s = x then some y else mget keyS l s := by
  have hd : KN (mdel keyS l x) := h.sublist (sdel_sub.map _)
  have hno : ∀ q ∈ mdel keyS l x, q.1 ≠ x := by
    intro q hq e
    have h1 := sdel_get h x x
    rw [if_pos rfl] at h1
    have : ∀ {l : List (List UInt8 × Int)} {q : List UInt8 × Int}, q ∈ l → mget keyS l q.1 ≠ none := by
      intro l q hq
      induction l with
      | nil => cases hq
      | cons p r ih =>
        rw [sget_cons]
        split
        · exact fun e => by cases e
        · next hne =>
          rcases List.mem_cons.1 hq with rfl | hq
          · exact absurd rfl hne
          · exact ih hq
    exact this hq (by rw [e]; exact h1)
  refine ⟨?_, fun s => ?_⟩
  · unfold mput
    obtain ⟨i, hi⟩ := mins_at keyS x y (mdel keyS l x)
    rw [hi]
    show (((mdel keyS l x).take i ++ (x, y) :: (mdel keyS l x).drop i).map (·.1)).Nodup
    have hp : (((mdel keyS l x).take i ++ (x, y) :: (mdel keyS l x).drop i).map (·.1)).Perm (x :: (mdel keyS l x).map (·.1)) := by
      rw [List.map_append, List.map_cons]
      refine List.perm_middle.trans ?_
      rw [← List.map_append, List.take_append_drop]
    refine hp.nodup_iff.2 (List.nodup_cons.2 ⟨fun hm => ?_, hd⟩)
    obtain ⟨q, hq, e⟩ := List.mem_map.1 hm
    exact hno q hq e
  · unfold mput
    rw [sins_get hno, sdel_get h]
    by_cases hs : s = x
    · rw [if_pos hs, if_pos hs]
    · rw [if_neg hs, if_neg hs, if_neg hs]

/-! ### What was delivered to each -/
def gv (e : Ent) : Int := if e.2.1 = 2 ∧ 0 ≤ e.2.2 ∧ e.2.2 ≤ 1099511627776 then e.2.2 else 0
theorem gv_bd (e : Ent) : 0 ≤ gv e ∧ gv e ≤ 1099511627776 := by unfold gv; split <;> omega
def tot2 (x : List Ent) (s : List UInt8) : Int := isum (x.map fun e => if e.1 = s then gv e else 0)
theorem tot2_bd (x : List Ent) (s : List UInt8) : 0 ≤ tot2 x s ∧ tot2 x s ≤ x.length * 1099511627776 := by
  have := isum_bd (l := x.map fun e => if e.1 = s then gv e else 0) (a := 0) (b := 1099511627776) fun v hv => by
    obtain ⟨e, he, rfl⟩ := List.mem_map.1 hv
    have := gv_bd e
    split <;> omega
  rw [List.length_map] at this
  unfold tot2
  omega
theorem tot2_snoc (x : List Ent) (e : Ent) (s : List UInt8) : tot2 (x ++ [e]) s = tot2 x s + if e.1 = s then gv e else 0 := by
  unfold tot2
  simp only [List.map_append, isum_app, List.map_cons, List.map_nil, isum]; omega
theorem tot2_none : ∀ {x : List Ent} {s : List UInt8}, (∀ e ∈ x, e.1 ≠ s) → tot2 x s = 0
  | [], _, _ => rfl
  | e :: x, s, h => by
    have := tot2_none (x := x) (s := s) fun q hq => h q (by simp [hq])
    unfold tot2 at this ⊢
    simp only [List.map_cons, isum, if_neg (h e (by simp)), this]; rfl

/-- The names met, and what each has. -/
structure ShipP (x : List Ent) (moved : List (List UInt8 × Int)) (names : List (List UInt8)) : Prop where
  kn : KN moved
  nodup : names.Nodup
  mem : ∀ s, s ∈ names ↔ ∃ e ∈ x, e.1 = s
  get : ∀ s, mget keyS moved s = if s ∈ names then some (tot2 x s) else none
theorem ShipP.step {x : List Ent} {moved : List (List UInt8 × Int)} {names : List (List UInt8)} (h : ShipP x moved names) (e : Ent) {moved' : List (List UInt8 × Int)} {names' : List (List UInt8)} (hkn : KN moved')
    (hn : names' = if e.1 ∈ names then names else names ++ [e.1]) (hm : ∀ s, mget keyS moved' s = if s = e.1 then some (tot2 x e.1 + gv e) else mget keyS moved s) : ShipP (x ++ [e]) moved' names' := by
  subst hn
  have hmem : ∀ s, s ∈ (if e.1 ∈ names then names else names ++ [e.1]) ↔ s ∈ names ∨ e.1 = s := by
    intro s
    split
    · next hc =>
      constructor
      · exact .inl
      · rintro (h | rfl)
        · exact h
        · exact hc
    · rw [List.mem_append, List.mem_singleton]
      exact or_congr Iff.rfl eq_comm
  refine ⟨hkn, ?_, fun s => ?_, fun s => ?_⟩
  · split
    · exact h.nodup
    · next hc => exact List.nodup_append.2 ⟨h.nodup, by simp, fun a ha b hb => by rw [List.mem_singleton.1 hb]; rintro rfl; exact hc ha⟩
  · rw [hmem, h.mem]
    simp only [List.mem_append, List.mem_singleton]
    constructor
    · rintro (⟨q, hq, hs⟩ | hs)
      · exact ⟨q, .inl hq, hs⟩
      · exact ⟨e, .inr rfl, hs⟩
    · rintro ⟨q, hq | rfl, hs⟩
      · exact .inl ⟨q, hq, hs⟩
      · exact .inr hs
  · rw [hm, tot2_snoc]
    by_cases hs : s = e.1
    · subst hs
      rw [if_pos rfl, if_pos ((hmem e.1).2 (.inr rfl)), if_pos rfl]
    · rw [if_neg hs, h.get, if_neg (show ¬ e.1 = s from fun h => hs h.symm), Int.add_zero]
      by_cases hc : s ∈ names
      · rw [if_pos hc, if_pos ((hmem s).2 (.inl hc))]
      · rw [if_neg hc, if_neg (fun h' => ((hmem s).1 h').elim hc (fun e => hs e.symm))]
theorem gv_at (e : Ent) : gv e = if (decide (e.2.1 = 2) && volP e.2.2) = true then e.2.2 else 0 := by
  unfold gv volP
  by_cases h : e.2.1 = 2
  · by_cases h2 : 0 ≤ e.2.2 ∧ e.2.2 ≤ 1099511627776
    · rw [if_pos ⟨h, h2⟩, dec_t h, dec_t h2]; rfl
    · rw [if_neg (fun hh => h2 hh.2), dec_t h, dec_f h2]; rfl
  · rw [if_neg (fun hh => h hh.1), dec_f h]; rfl

theorem ship_L0 {l : List Ent} (hl : l.length ≤ 1000) : Ok (iter (fun x : Int × List (List UInt8 × Int) × List (List UInt8) => allocate_Shippers_L0 l x.1 x.2.1 x.2.2) (0, [], [])) fun r => ShipP l r.1 r.2 ∧ r.2.length ≤ l.length := by
  refine Ok.loop (fun z => ∃ (i : Nat) (moved : List (List UInt8 × Int)) (names : List (List UInt8)), z = ((i : Int), moved, names) ∧ i ≤ l.length ∧ names.length ≤ i ∧ ShipP (l.take i) moved names) (fun z => ((l.length : Int) - z.1).toNat)
    ⟨0, [], [], rfl, by omega, Nat.le_refl _, ⟨List.nodup_nil, List.nodup_nil, fun s => by simp, fun s => rfl⟩⟩ ?_
  rintro _ ⟨i, moved, names, rfl, h1, h2, h3⟩
  unfold allocate_Shippers_L0
  simp only
  refine Ok.bif (fun hlt => ?_) (fun hlt => Ok.ret ?_)
  · have hlt := of_decide_eq_true hlt
    have hi : i < l.length := by omega
    have b1 := tot2_bd (l.take i) (l.getD i e0).1
    rw [List.length_take] at b1
    refine Ok.gd (inB_t hi) ?_
    rw [Int.toNat_natCast, show (([], (0, 0)) : Ent) = e0 from rfl]
    refine Ok.bind (Q := fun r => KN r.1 ∧ r.2 = (if (l.getD i e0).1 ∈ names then names else names ++ [(l.getD i e0).1]) ∧ r.2.length ≤ i + 1 ∧ ∀ s, mget keyS r.1 s = if s = (l.getD i e0).1 then some (tot2 (l.take i) (l.getD i e0).1) else mget keyS moved s) ?_ ?_
    · by_cases hc : (l.getD i e0).1 ∈ names
      · have hg := h3.get (l.getD i e0).1
        rw [if_pos hc] at hg
        rw [hg]
        refine Ok.bif (fun h => by cases h) (fun _ => Ok.ret ⟨h3.kn, by rw [if_pos hc], by simp only; omega, fun s => ?_⟩)
        by_cases hs : s = (l.getD i e0).1
        · rw [if_pos hs, hs, hg]
        · rw [if_neg hs]
      · have hg := h3.get (l.getD i e0).1
        rw [if_neg hc] at hg
        rw [hg]
        obtain ⟨p1, p2⟩ := sput_ok h3.kn (l.getD i e0).1 0
        refine Ok.bif (fun _ => Ok.gd (fits_t (by omega)) (Ok.ret ⟨p1, by rw [if_neg hc], by simp; omega, fun s => ?_⟩)) (fun h => by cases h)
        have h0 : tot2 (l.take i) (l.getD i e0).1 = 0 := tot2_none fun e he hs => hc ((h3.mem _).2 ⟨e, he, hs⟩)
        simp only
        rw [p2, h0]
    rintro ⟨mv, nm⟩ ⟨k0, k1, k2, k3⟩
    simp only at k0 k1 k2 k3
    refine Ok.bind (Q := fun r => r = (decide ((l.getD i e0).2.1 = 2) && volP (l.getD i e0).2.2, mv, nm)) ?_ ?_
    · refine Ok.bif (fun h2' => ?_) (fun h2' => Ok.ret ?_)
      · rw [vol_eq]
        refine Ok.eq rfl (Ok.ret ?_)
        rw [h2', Bool.true_and]
      · rw [h2', Bool.false_and]
    rintro _ rfl
    have hg := gv_at (l.getD i e0)
    refine Ok.bind (Q := fun r => KN r.1 ∧ r.2 = nm ∧ ∀ s, mget keyS r.1 s = if s = (l.getD i e0).1 then some (tot2 (l.take i) (l.getD i e0).1 + gv (l.getD i e0)) else mget keyS moved s) ?_ ?_
    · refine Ok.bif (fun h2' => ?_) (fun h2' => Ok.ret ⟨k0, rfl, fun s => ?_⟩)
      · simp only at h2' ⊢
        rw [if_pos h2'] at hg
        have hgb := gv_bd (l.getD i e0)
        rw [hg] at hgb
        obtain ⟨p1, p2⟩ := sput_ok k0 (l.getD i e0).1 (wi64 (((mget keyS mv (l.getD i e0).1).getD 0) + (l.getD i e0).2.2))
        refine Ok.ret ⟨p1, rfl, fun s => ?_⟩
        simp only
        rw [p2, k3 (l.getD i e0).1, if_pos rfl, Option.getD_some, wi (by omega), hg, k3 s]
        split <;> rfl
      · simp only at h2'
        rw [if_neg (by rw [h2']; simp)] at hg
        simp only
        rw [hg, Int.add_zero, k3 s]
    rintro ⟨mv2, nm2⟩ ⟨k6, k4, k5⟩
    simp only at k6 k4 k5
    refine Ok.ret ?_
    simp only
    rw [wi (by omega)]
    refine ⟨⟨i + 1, mv2, nm2, rfl, by omega, by rw [k4]; exact k2, ?_⟩, by omega⟩
    rw [take_next e0 hi]
    exact h3.step (l.getD i e0) k6 (by rw [k4, k1]) k5
  · have hlt := of_decide_eq_false hlt
    simp only
    rw [List.take_of_length_le (by omega)] at h3
    exact ⟨h3, by omega⟩

abbrev BL (a b : List UInt8) : Prop := Op.bytesLess a b = true
theorem swo_bl : Sort.SWO Op.bytesLess where
  irrefl := bl_irrefl
  trans _ _ _ h h' := bl_trans h h'
  ntrans x y z h h' := by
    cases hxz : Op.bytesLess x z with
    | false => rfl
    | true =>
      exfalso
      rcases bl_tri x y with h1 | h1 | h1
      · rw [h1] at h; cases h
      · subst h1; rw [hxz] at h'; cases h'
      · have := bl_trans h1 hxz
        rw [this] at h'; cases h'
theorem ship_cmp : Pstring.CmpLt (fun h => (allocate_Shippers_1 h.1 h.2.1).bind fun y => some y) Op.bytesLess := fun x y => by
  refine ⟨Lib.compareBytes x y, rfl, ?_⟩
  have h := (cmp_spec x y).1
  cases hb : Op.bytesLess x y with
  | true => exact dec_t (h.2 hb)
  | false => exact dec_f (fun hh => by rw [h.1 hh] at hb; cases hb)

theorem shippers_ok {l : List Ent} (hl : l.length ≤ 1000) : ∃ T, allocate_Shippers l = some (T, T.map (tot2 l)) ∧ T.Pairwise BL ∧ (∀ s, s ∈ T ↔ ∃ e ∈ l, e.1 = s) ∧ T.length ≤ l.length := by
  obtain ⟨⟨moved, names⟩, q1, q2, q3⟩ := ship_L0 hl
  simp only at q2 q3
  obtain ⟨T, p3, p1, p2⟩ := Pstring.sort_ok ship_cmp swo_bl names (by omega)
  have hTl : T.length = names.length := p1.length_eq
  have hmem : ∀ s, s ∈ T ↔ s ∈ names := fun s => p1.mem_iff
  have L1 := iter_for (step := fun x : Int × List (List UInt8 × Int) × List (List UInt8) × List Int => allocate_Shippers_L1 T x.1 x.2.1 x.2.2.1 x.2.2.2) T.length (fun i => ((i : Int), moved, T, (T.map (tot2 l)).take i)) (e := (T, T.map (tot2 l))) (fun i hi => by
      have hm := gD_mem (d := ([] : List UInt8)) hi
      have hg := q2.get (T.getD i [])
      rw [if_pos ((hmem _).1 hm)] at hg
      have hlt : ((T.map (tot2 l)).take i).length = i := by simp; omega
      unfold allocate_Shippers_L1
      simp only [dec_t (show (i : Int) < (T.length : Int) by omega), cond_true, gd_t (inB_t hi), Int.toNat_natCast, hlt, gd_t (fits_t (n := i + 1) (b := 8) (by omega)), hg, Option.getD_some]
      rw [take_next 0 (by simpa using hi), gD_map (tot2 l) T i [] 0 hi, wi (by omega)]; rfl) (by
      unfold allocate_Shippers_L1
      simp only [dec_f (show ¬ (T.length : Int) < (T.length : Int) by omega), cond_false]
      rw [List.take_of_length_le (by simp)])
  refine ⟨T, ?_, ?_, fun s => (hmem s).trans (q2.mem s), by omega⟩
  · unfold allocate_Shippers
    rw [q1]
    simp only [Option.bind_some]
    rw [p3]
    simp only [Option.bind_some]
    have : (((0 : Nat) : Int), moved, T, (T.map (tot2 l)).take 0) = ((0 : Int), moved, T, ([] : List Int)) := by simp
    rw [this] at L1
    rw [L1]; rfl
  · have hnd : T.Nodup := p1.nodup_iff.2 q2.nodup
    have := p2.and hnd
    refine this.imp fun {a b} hab => ?_
    rcases bl_tri a b with h1 | h1 | h1
    · exact h1
    · exact absurd h1 hab.2
    · rw [hab.1] at h1; cases h1

/-! ### The document's shippers -/
theorem ins_eq {A : Type} (l : List A) (k : Nat) (x y : A) (h : k ≤ l.length) : (cpy (l ++ [x]) (k + 1) k).set k y = l.take k ++ y :: l.drop k := by
  have hlen : (l ++ [x]).length = l.length + 1 := by simp
  have hc := cpy_len (l ++ [x]) (d := k + 1) (s := k) (by omega) (by omega)
  apply List.ext_getElem?
  intro i
  have hcg := cpy_get (l ++ [x]) (d := k + 1) (s := k) (by omega) (by omega) i
  rw [hlen, show min (l.length + 1 - k) (l.length + 1 - (k + 1)) = l.length - k by omega] at hcg
  rw [List.getElem?_set]
  by_cases hki : k = i
  · subst hki
    rw [if_pos rfl, if_pos (by rw [hc, hlen]; omega), List.getElem?_append_right (by rw [List.length_take]; omega), List.length_take, Nat.min_eq_left h, Nat.sub_self]; rfl
  · rw [if_neg hki, hcg]
    by_cases h1 : i < k
    · rw [if_neg (by omega), List.getElem?_append_left (by omega), List.getElem?_append_left (by rw [List.length_take]; omega), List.getElem?_take, if_pos h1]
    · rw [List.getElem?_append_right (l₁ := l.take k) (by rw [List.length_take]; omega), List.length_take, Nat.min_eq_left h]
      obtain ⟨q, hq⟩ : ∃ q, i = k + 1 + q := ⟨i - (k + 1), by omega⟩
      subst hq
      rw [show k + 1 + q - k = q + 1 by omega, List.getElem?_cons_succ, List.getElem?_drop]
      by_cases h2 : k + 1 + q < k + 1 + (l.length - k)
      · rw [if_pos ⟨by omega, h2⟩, List.getElem?_append_left (by omega)]
        congr 1; omega
      · rw [if_neg (by omega), List.getElem?_eq_none (by rw [hlen]; omega), List.getElem?_eq_none (by omega)]

/-- Where a name is, or would be. -/
theorem place_eq2 {l : List Ent} {i : Nat} {names : List (List UInt8)} {moved : List Int} (hi : i < l.length) (hn : names.length ≤ 1000) :
    ∃ k : Nat, iter (fun x : Int × List (List UInt8) × List Int => ref38_Shippers_L1 l (i : Int) x.1 x.2.1 x.2.2) (0, names, moved) = some ((k : Int), names, moved) ∧ k ≤ names.length ∧ (∀ j, j < k → BL (names.getD j []) (l.getD i e0).1) ∧ (k < names.length → Op.bytesLess (names.getD k []) (l.getD i e0).1 = false) := by
  have h : Ok (iter (fun x : Int × List (List UInt8) × List Int => ref38_Shippers_L1 l (i : Int) x.1 x.2.1 x.2.2) (0, names, moved)) fun r => ∃ k : Nat, r = ((k : Int), names, moved) ∧ k ≤ names.length ∧ (∀ j, j < k → BL (names.getD j []) (l.getD i e0).1) ∧ (k < names.length → Op.bytesLess (names.getD k []) (l.getD i e0).1 = false) := by
    refine Ok.loop (fun x => ∃ k : Nat, x = ((k : Int), names, moved) ∧ k ≤ names.length ∧ ∀ j, j < k → BL (names.getD j []) (l.getD i e0).1) (fun x => ((names.length : Int) - x.1).toNat) ⟨0, rfl, by omega, fun j hj => by omega⟩ ?_
    rintro _ ⟨k, rfl, h1, h2⟩
    unfold ref38_Shippers_L1
    by_cases hk : k < names.length
    · rw [dec_t (show (k : Int) < (names.length : Int) by omega)]
      simp only [cond_true, gd_t (inB_t hk), gd_t (inB_t hi), Int.toNat_natCast, Option.bind_some]
      rw [show (([], (0, 0)) : Ent) = e0 from rfl]
      cases hb : Op.bytesLess (names.getD k []) (l.getD i e0).1 with
      | true =>
        simp only [cond_true]
        rw [wi (by omega)]
        refine Ok.ret ⟨⟨k + 1, rfl, by omega, fun j hj => ?_⟩, by simp only; omega⟩
        by_cases hjk : j = k
        · subst hjk; exact hb
        · exact h2 j (by omega)
      | false => exact Ok.ret ⟨k, rfl, h1, h2, fun _ => hb⟩
    · rw [dec_f (show ¬ (k : Int) < (names.length : Int) by omega)]
      exact Ok.ret ⟨k, rfl, h1, h2, fun h => absurd h hk⟩
  obtain ⟨r, hr, k, rfl, q⟩ := h
  exact ⟨k, hr, q⟩
structure RefP (x : List Ent) (names : List (List UInt8)) (moved : List Int) : Prop where
  pw : names.Pairwise BL
  mem : ∀ s, s ∈ names ↔ ∃ e ∈ x, e.1 = s
  mv : moved = names.map (tot2 x)
theorem pw_at {names : List (List UInt8)} (h : names.Pairwise BL) {i j : Nat} (hij : i < j) (hj : j < names.length) : BL (names.getD i []) (names.getD j []) := by
  have := List.pairwise_iff_getElem.1 h i j (by omega) hj hij
  rw [gD_eq (by omega), gD_eq hj]; exact this
theorem pw_of2 {names : List (List UInt8)} (h : ∀ i j, i < j → j < names.length → BL (names.getD i []) (names.getD j [])) : names.Pairwise BL :=
  List.pairwise_iff_getElem.2 fun i j hi hj hij => by
    have := h i j hij hj
    rwa [gD_eq hi, gD_eq hj] at this
theorem rship_L0 {l : List Ent} (hl : l.length ≤ 1000) : Ok (iter (fun x2 : Int × List (List UInt8) × List Int => ref38_Shippers_L0 l x2.1 x2.2.1 x2.2.2) (0, [], [])) fun r => RefP l r.1 r.2 := by
  refine Ok.loop (fun z => ∃ (i : Nat) (names : List (List UInt8)) (moved : List Int), z = ((i : Int), names, moved) ∧ i ≤ l.length ∧ names.length ≤ i ∧ RefP (l.take i) names moved) (fun z => ((l.length : Int) - z.1).toNat)
    ⟨0, [], [], rfl, by omega, by simp, ⟨List.Pairwise.nil, by simp, rfl⟩⟩ ?_
  rintro _ ⟨i, names, moved, rfl, h1, h2, h3⟩
  unfold ref38_Shippers_L0
  simp only
  by_cases hi : i < l.length
  · rw [dec_t (show (i : Int) < (l.length : Int) by omega)]
    simp only [cond_true]
    obtain ⟨k, k1, k2, k3, k4⟩ := place_eq2 (l := l) (i := i) (names := names) (moved := moved) hi (by omega)
    rw [k1, Option.bind_some]
    simp only [Int.toNat_natCast]
    rw [show (([], (0, 0)) : Ent) = e0 from rfl]
    have b1 := tot2_bd (l.take i) (l.getD i e0).1
    rw [List.length_take] at b1
    have hml : moved.length = names.length := by rw [h3.mv, List.length_map]
    -- is it there?
    have hin : ∀ j, j < names.length → names.getD j [] = (l.getD i e0).1 → j = k := by
      intro j hj e
      rcases Nat.lt_trichotomy j k with h | h | h
      · have := k3 j h
        rw [e, show BL (l.getD i e0).1 (l.getD i e0).1 = (Op.bytesLess (l.getD i e0).1 (l.getD i e0).1 = true) from rfl, bl_irrefl] at this; cases this
      · exact h
      · have h5 := pw_at h3.pw h hj
        rw [e] at h5
        have h5' : Op.bytesLess (names.getD k []) (l.getD i e0).1 = true := h5
        rw [k4 (by omega)] at h5'; cases h5'
    have s3 : (bif decide ((k : Int) = (names.length : Int)) then some (true, names, moved) else (gd (inB (k : Int) names.length) <| gd (inB (i : Int) l.length) <| some ((!decide (names.getD k [] = (l.getD i e0).1)), names, moved))) = some (!decide ((l.getD i e0).1 ∈ names), names, moved) := by
      by_cases hk : k = names.length
      · rw [dec_t (show (k : Int) = (names.length : Int) by omega), dec_f (show ¬ (l.getD i e0).1 ∈ names from fun hm => by
          obtain ⟨j, hj, e⟩ := mem_gD [] hm
          have := hin j hj e; omega)]; rfl
      · have hk2 : k < names.length := by omega
        rw [dec_f (show ¬ (k : Int) = (names.length : Int) by omega)]
        simp only [cond_false, gd_t (inB_t hk2), gd_t (inB_t hi)]
        by_cases he : names.getD k [] = (l.getD i e0).1
        · rw [dec_t he, dec_t (show (l.getD i e0).1 ∈ names by rw [← he]; exact gD_mem hk2)]
        · rw [dec_f he, dec_f (show ¬ (l.getD i e0).1 ∈ names from fun hm => by
            obtain ⟨j, hj, e⟩ := mem_gD [] hm
            have := hin j hj e
            subst this; exact he e)]
    rw [s3, Option.bind_some]
    simp only
    -- the names and sums with the name in
    refine Ok.bind (Q := fun r => k < r.1.length ∧ r.1.length ≤ i + 1 ∧ r.1.getD k [] = (l.getD i e0).1 ∧ r.1.Pairwise BL ∧ (∀ s, s ∈ r.1 ↔ s ∈ names ∨ s = (l.getD i e0).1) ∧ r.2 = r.1.map (tot2 (l.take i))) ?_ ?_
    · by_cases hm : (l.getD i e0).1 ∈ names
      · rw [dec_t hm]
        simp only [Bool.not_true, cond_false]
        obtain ⟨j, hj, e⟩ := mem_gD [] hm
        have hjk := hin j hj e
        subst hjk
        refine Ok.ret ⟨hj, by simp only; omega, e, h3.pw, fun s => ⟨.inl, fun h => h.elim id fun h => by rw [h]; exact hm⟩, h3.mv⟩
      · rw [dec_f hm]
        have w1 : wi64 ((k : Int) + 1) = ((k + 1 : Nat) : Int) := by rw [wi (by omega)]; rfl
        have f1 : (names ++ [([] : List UInt8)]).length = names.length + 1 := by simp
        have f2 : (moved ++ [(0 : Int)]).length = names.length + 1 := by simp [hml]
        have c1 := cpy_len (names ++ [([] : List UInt8)]) (d := k + 1) (s := k) (by omega) (by omega)
        have c2 := cpy_len (moved ++ [(0 : Int)]) (d := k + 1) (s := k) (by omega) (by omega)
        have hr1 : ∀ (a n : Nat), a ≤ n → 0 < n → (decide (0 < n) && inR (a : Int) (n : Int) n) = true := fun a n ha hn => by rw [dec_t hn, inR_t ha (Nat.le_refl _)]; rfl
        have hr2 : ∀ n : Nat, 0 < n → (decide True && (decide True && decide (0 < n))) = true := fun n hn => by rw [dec_t hn]; rfl
        simp only [Bool.not_false, cond_true, w1, Int.toNat_natCast]
        refine Ok.gd (fits_t (by omega)) (Ok.gd (hr1 _ _ (by omega) (by omega)) (Ok.gd (hr1 _ _ (by omega) (by omega)) (Ok.gd (hr2 _ (by omega)) (Ok.gd (inB_t hi) (Ok.gd (inB_t (by omega)) (Ok.gd (fits_t (by omega)) (Ok.gd (hr1 _ _ (by omega) (by omega)) (Ok.gd (hr1 _ _ (by omega) (by omega)) (Ok.gd (hr2 _ (by omega)) (Ok.gd (inB_t (by omega)) (Ok.ret ?_)))))))))))
        rw [ins_eq names k _ _ k2, ins_eq moved k _ _ (by omega)]
        have hlen : (names.take k ++ (l.getD i e0).1 :: names.drop k).length = names.length + 1 := by simp; omega
        have hat : ∀ j, (names.take k ++ (l.getD i e0).1 :: names.drop k).getD j [] = if j < k then names.getD j [] else if j = k then (l.getD i e0).1 else names.getD (j - 1) [] := by
          intro j
          rw [gD_app, List.length_take, Nat.min_eq_left k2]
          by_cases hj : j < k
          · rw [if_pos hj, if_pos hj, gD_take, if_pos hj]
          · rw [if_neg hj, if_neg hj]
            by_cases hjk : j = k
            · rw [if_pos hjk, hjk, Nat.sub_self]; rfl
            · obtain ⟨q, hq⟩ : ∃ q, j = k + 1 + q := ⟨j - (k + 1), by omega⟩
              rw [if_neg hjk, hq, show k + 1 + q - k = q + 1 by omega, List.getD_cons_succ, gD_drop, show k + 1 + q - 1 = k + q by omega]
        have hgt : ∀ j, k ≤ j → j < names.length → BL (l.getD i e0).1 (names.getD j []) := by
          intro j hj hjl
          have hk' : k < names.length := by omega
          have h5 : BL (l.getD i e0).1 (names.getD k []) := by
            rcases bl_tri (l.getD i e0).1 (names.getD k []) with h | h | h
            · exact h
            · exact absurd (by rw [h]; exact gD_mem hk') hm
            · rw [k4 hk'] at h; cases h
          by_cases hjk : j = k
          · rw [hjk]; exact h5
          · exact bl_trans h5 (pw_at h3.pw (by omega) hjl)
        refine ⟨by rw [hlen]; omega, by rw [hlen]; omega, by rw [hat, if_neg (by omega), if_pos rfl], pw_of2 fun p q hpq hq => ?_, fun s => ?_, ?_⟩
        · rw [hlen] at hq
          rw [hat, hat]
          by_cases h5 : p < k
          · rw [if_pos h5]
            by_cases h6 : q < k
            · rw [if_pos h6]; exact pw_at h3.pw hpq (by omega)
            · rw [if_neg h6]
              by_cases h7 : q = k
              · rw [if_pos h7]; exact k3 p h5
              · rw [if_neg h7]; exact bl_trans (k3 p h5) (hgt (q - 1) (by omega) (by omega))
          · rw [if_neg h5, if_neg (show ¬ q < k by omega), if_neg (show ¬ q = k by omega)]
            by_cases h7 : p = k
            · rw [if_pos h7]; exact hgt (q - 1) (by omega) (by omega)
            · rw [if_neg h7]; exact pw_at h3.pw (by omega) (by omega)
        · have hp : (names.take k ++ (l.getD i e0).1 :: names.drop k).Perm ((l.getD i e0).1 :: names) := by
            refine List.perm_middle.trans ?_
            rw [List.take_append_drop]
          rw [hp.mem_iff, List.mem_cons]
          exact or_comm
        · have h0 : tot2 (l.take i) (l.getD i e0).1 = 0 := tot2_none fun e he hs => hm ((h3.mem _).2 ⟨e, he, hs⟩)
          rw [h3.mv, List.map_append, List.map_cons, h0, List.map_take, List.map_drop]
    rintro ⟨nm, mv⟩ ⟨q1, q2, q3, q4, q5, q6⟩
    simp only at q1 q2 q3 q4 q5 q6
    have hmv : mv.length = nm.length := by rw [q6, List.length_map]
    have hg := gv_at (l.getD i e0)
    have s5 : (gd (inB (i : Int) l.length) <| bif decide ((l.getD i e0).2.1 = 2) then (gd (inB (i : Int) l.length) <| bif decide (0 ≤ (l.getD i e0).2.2) then (gd (inB (i : Int) l.length) <| some (decide ((l.getD i e0).2.2 ≤ 1099511627776), nm, mv)) else some (false, nm, mv)) else some (false, nm, mv)) = some (decide ((l.getD i e0).2.1 = 2) && volP (l.getD i e0).2.2, nm, mv) := by
      rw [gd_t (inB_t hi), gd_t (inB_t hi)]
      unfold volP
      by_cases g1 : (l.getD i e0).2.1 = 2
      · rw [dec_t g1]
        by_cases g2 : 0 ≤ (l.getD i e0).2.2
        · rw [dec_t g2]
          simp only [cond_true, Bool.true_and]
          rw [gd_t (inB_t hi)]
          by_cases g3 : (l.getD i e0).2.2 ≤ 1099511627776
          · rw [dec_t g3, dec_t (show 0 ≤ (l.getD i e0).2.2 ∧ (l.getD i e0).2.2 ≤ 1099511627776 from ⟨g2, g3⟩)]
          · rw [dec_f g3, dec_f (show ¬ (0 ≤ (l.getD i e0).2.2 ∧ (l.getD i e0).2.2 ≤ 1099511627776) from fun h => g3 h.2)]
        · rw [dec_f g2, dec_f (show ¬ (0 ≤ (l.getD i e0).2.2 ∧ (l.getD i e0).2.2 ≤ 1099511627776) from fun h => g2 h.1)]; rfl
      · rw [dec_f g1]; rfl
    rw [s5, Option.bind_some]
    simp only
    refine Ok.bind (Q := fun r => r = (nm, nm.map (tot2 (l.take (i + 1))))) ?_ ?_
    · have hkey : ∀ v : Int, v = tot2 (l.take i) (l.getD i e0).1 + gv (l.getD i e0) → (nm.map (tot2 (l.take i))).set k v = nm.map (tot2 (l.take (i + 1))) := by
        intro v hv
        refine ext_gD 0 (by simp) fun j hj => ?_
        rw [List.length_set, List.length_map] at hj
        rw [gD_set, List.length_map, gD_map _ _ _ [] _ hj, gD_map _ _ _ [] _ hj, take_next e0 hi, tot2_snoc]
        by_cases hjk : k = j
        · subst hjk
          rw [if_pos ⟨rfl, q1⟩, q3, if_pos rfl, hv]
        · rw [if_neg (fun h => hjk h.1), if_neg (fun e => hjk ?_), Int.add_zero]
          rcases Nat.lt_trichotomy k j with h | h | h
          · have := pw_at q4 h hj
            rw [q3, e] at this
            rw [show BL (nm.getD j []) (nm.getD j []) = (Op.bytesLess (nm.getD j []) (nm.getD j []) = true) from rfl, bl_irrefl] at this; cases this
          · exact h
          · have := pw_at q4 h q1
            rw [q3, e] at this
            rw [show BL (nm.getD j []) (nm.getD j []) = (Op.bytesLess (nm.getD j []) (nm.getD j []) = true) from rfl, bl_irrefl] at this; cases this
      have hat : mv.getD k 0 = tot2 (l.take i) (l.getD i e0).1 := by rw [q6, gD_map _ _ _ [] _ q1, q3]
      refine Ok.bif (fun h => ?_) (fun h => ?_)
      · rw [if_pos h] at hg
        have hgb := gv_bd (l.getD i e0)
        rw [hg] at hgb
        refine Ok.gd (inB_t (by omega)) (Ok.gd (inB_t hi) (Ok.gd (inB_t (by omega)) (Ok.ret ?_)))
        rw [hat, wi (by omega), q6, hkey _ (by rw [hg])]
      · rw [if_neg (by rw [h]; simp)] at hg
        refine Ok.ret ?_
        have := hkey (tot2 (l.take i) (l.getD i e0).1) (by rw [hg, Int.add_zero])
        rw [← this, q6]
        congr 1
        refine ext_gD 0 (by simp) fun j hj => ?_
        rw [gD_set]
        split
        · next hh => rw [← hh.1, gD_map _ _ _ [] _ q1, q3]
        · rfl
    rintro _ rfl
    refine Ok.ret ?_
    simp only
    rw [wi (by omega)]
    refine ⟨⟨i + 1, nm, _, rfl, by omega, q2, ⟨q4, fun s => ?_, rfl⟩⟩, by omega⟩
    rw [q5, h3.mem, take_next e0 hi]
    simp only [List.mem_append, List.mem_singleton]
    constructor
    · rintro (⟨e, he, hs⟩ | hs)
      · exact ⟨e, .inl he, hs⟩
      · exact ⟨_, .inr rfl, hs.symm⟩
    · rintro ⟨e, he | rfl, hs⟩
      · exact .inl ⟨e, he, hs⟩
      · exact .inr hs.symm
  · rw [dec_f (show ¬ (i : Int) < (l.length : Int) by omega)]
    rw [List.take_of_length_le (by omega)] at h3
    exact Ok.ret h3

theorem pw_uniq : ∀ {X Y : List (List UInt8)}, X.Pairwise BL → Y.Pairwise BL → (∀ s, s ∈ X ↔ s ∈ Y) → X = Y
  | [], [], _, _, _ => rfl
  | [], y :: Y, _, _, h => by have := (h y).2 (by simp); cases this
  | x :: X, [], _, _, h => by have := (h x).1 (by simp); cases this
  | x :: X, y :: Y, hX, hY, h => by
    obtain ⟨a1, a2⟩ := List.pairwise_cons.1 hX
    obtain ⟨b1, b2⟩ := List.pairwise_cons.1 hY
    have hxy : x = y := by
      rcases List.mem_cons.1 ((h x).1 (by simp)) with e | e
      · exact e
      · rcases List.mem_cons.1 ((h y).2 (by simp)) with e' | e'
        · exact e'.symm
        · have c1 : BL y x := b1 x e
          have c2 : BL x y := a1 y e'
          have := bl_asym c1
          rw [show BL x y = (Op.bytesLess x y = true) from rfl, this] at c2; cases c2
    subst hxy
    rw [pw_uniq a2 b2 fun s => ?_]
    constructor
    · intro hs
      rcases List.mem_cons.1 ((h s).1 (by simp [hs])) with e | e
      · have := bl_ne (a1 s hs); exact absurd e.symm this
      · exact e
    · intro hs
      rcases List.mem_cons.1 ((h s).2 (by simp [hs])) with e | e
      · have := bl_ne (b1 s hs); exact absurd e.symm this
      · exact e
theorem ship_both {l : List Ent} (hl : l.length ≤ 1000) : ∃ (T : List (List UInt8)) (w : List Int), allocate_Shippers l = some (T, w) ∧ ref38_Shippers l = some (T, w) ∧ T.length ≤ l.length ∧ w.length = T.length := by
  obtain ⟨T, p1, p2, p3, p4⟩ := shippers_ok hl
  obtain ⟨⟨T', w'⟩, q1, q2⟩ := rship_L0 hl
  have e : T' = T := pw_uniq q2.pw p2 fun s => (q2.mem s).trans (p3 s).symm
  subst e
  refine ⟨T', _, p1, ?_, p4, by simp⟩
  unfold ref38_Shippers
  rw [q1]
  have hw : w' = T'.map (tot2 l) := q2.mv
  rw [hw]; rfl

/-! ### Divide -/
theorem div_list {T : List (List UInt8)} {sh : List Int} (hT : T.length ≤ 1000) (hlen : T.length ≤ sh.length) (r3 : List (List UInt8) × List Int) (h3 : r3.1 = T) :
    iter (fun x : Int × List Ent × List (List UInt8) => allocate_Divide_L0 r3 (sh, 0) x.1 x.2.1 x.2.2) (0, [], T) = some ((List.range T.length).map fun i => (T.getD i [], (4, sh.getD i 0))) ∧
    iter (fun x : Int × List (List UInt8) × List Ent => ref38_Divide_L0 (sh, 0) x.1 x.2.1 x.2.2) (0, T, []) = some ((List.range T.length).map fun i => (T.getD i [], (4, sh.getD i 0))) := by
  have hr : ∀ i, i < T.length → (List.range T.length).getD i 0 = i := fun i hi => by rw [gD_eq (by simpa using hi)]; simp
  have hlt : ∀ i, i < T.length → (((List.range T.length).map fun i => (T.getD i [], ((4 : Int), sh.getD i 0))).take i).length = i := fun i hi => by simp; omega
  have k1 := iter_for (step := fun x : Int × List Ent × List (List UInt8) => allocate_Divide_L0 r3 (sh, 0) x.1 x.2.1 x.2.2) T.length (fun i => ((i : Int), ((List.range T.length).map fun i => (T.getD i [], ((4 : Int), sh.getD i 0))).take i, T)) (e := (List.range T.length).map fun i => (T.getD i [], (4, sh.getD i 0))) (fun i hi => by
      unfold allocate_Divide_L0
      simp only [h3, dec_t (show (i : Int) < (T.length : Int) by omega), cond_true, gd_t (inB_t hi), gd_t (inB_t (show i < sh.length by omega)), Int.toNat_natCast, hlt i hi, gd_t (fits_t (n := i + 1) (b := 32) (by omega))]
      rw [take_next e0 (by simpa using hi), gD_map (fun i => (T.getD i [], ((4 : Int), sh.getD i 0))) (List.range T.length) i 0 e0 (by simpa using hi), hr i hi, wi (by omega)]; rfl) (by
      unfold allocate_Divide_L0
      simp only [h3, dec_f (show ¬ (T.length : Int) < (T.length : Int) by omega), cond_false]
      rw [List.take_of_length_le (by simp)])
  have k2 := iter_for (step := fun x : Int × List (List UInt8) × List Ent => ref38_Divide_L0 (sh, 0) x.1 x.2.1 x.2.2) T.length (fun i => ((i : Int), T, ((List.range T.length).map fun i => (T.getD i [], ((4 : Int), sh.getD i 0))).take i)) (e := (List.range T.length).map fun i => (T.getD i [], (4, sh.getD i 0))) (fun i hi => by
      unfold ref38_Divide_L0
      simp only [dec_t (show (i : Int) < (T.length : Int) by omega), cond_true, gd_t (inB_t hi), gd_t (inB_t (show i < sh.length by omega)), Int.toNat_natCast, hlt i hi, gd_t (fits_t (n := i + 1) (b := 32) (by omega))]
      rw [take_next e0 (by simpa using hi), gD_map (fun i => (T.getD i [], ((4 : Int), sh.getD i 0))) (List.range T.length) i 0 e0 (by simpa using hi), hr i hi, wi (by omega)]; rfl) (by
      unfold ref38_Divide_L0
      simp only [dec_f (show ¬ (T.length : Int) < (T.length : Int) by omega), cond_false]
      rw [List.take_of_length_le (by simp)])
  have z1 : (((0 : Nat) : Int), ((List.range T.length).map fun i => (T.getD i [], ((4 : Int), sh.getD i 0))).take 0, T) = ((0 : Int), ([] : List Ent), T) := by simp
  have z2 : (((0 : Nat) : Int), T, ((List.range T.length).map fun i => (T.getD i [], ((4 : Int), sh.getD i 0))).take 0) = ((0 : Int), T, ([] : List Ent)) := by simp
  rw [z1] at k1
  rw [z2] at k2
  exact ⟨k1, k2⟩
theorem share_len2 {t : Int} {w : List Int} {r : List Int × Int} (h : allocate_Share t w = some r) (h0 : r.2 = 0) : r.1.length = w.length := by
  obtain ⟨r', q1, q2, q3⟩ := allot_both t w
  rw [h] at q1; injection q1 with q1; subst q1
  revert q2
  unfold ref38_Share
  by_cases h1 : 64 < w.length
  · rw [dec_t (show (64 : Int) < (w.length : Int) by omega)]; intro e; injection e with e; subst e; cases h0
  · rw [dec_f (show ¬ (64 : Int) < (w.length : Int) by omega)]
    by_cases h2 : t < -1099511627776 ∨ 1099511627776 < t
    · by_cases h3 : t < -1099511627776
      · rw [dec_t h3]; intro e; injection e with e; subst e; cases h0
      · rw [dec_f h3, dec_t (show 1099511627776 < t by omega)]; intro e; injection e with e; subst e; cases h0
    · rw [dec_f (show ¬ t < -1099511627776 by omega), dec_f (show ¬ 1099511627776 < t by omega), rl_L0 (by omega)]
      cases hv : vOk w
      · intro e; injection e with e; subst e; cases h0
      · by_cases ht : t = 0
        · simp only [cond_false, cond_true, Option.bind_some, Sum.elim_inl, dec_t ht, Int.toNat_natCast]
          rw [gd_t (makeG_t (show w.length * 8 ≤ _ by omega))]
          intro e; injection e with e; subst e; simp
        · by_cases h4 : isum w = 0
          · simp only [cond_false, cond_true, Option.bind_some, Sum.elim_inl, dec_f ht, dec_t h4]
            intro e; injection e with e; subst e; cases h0
          · intro _
            have hin : AlIn (max t (-t)).toNat w := ⟨by omega, by omega, vOk_iff.1 hv, h4⟩
            obtain ⟨o, ho, q, _⟩ := al_main hin (by omega) ht
            rw [h] at q; injection q with q; subst q
            have := (share_bd hin ho).1
            simp only [allotOf, List.length_map]
            exact this
theorem div_both {l : List Ent} (hl : l.length ≤ 1000) (d : Int) : ∃ (e : Int) (q : List Ent), allocate_Divide l d = some (e, q) ∧ ref38_Divide l d = some (e, q) ∧ q.length ≤ 1000 := by
  obtain ⟨r, m1, m2⟩ := meas_both l
  obtain ⟨T, w, s1, s2, s3, s4⟩ := ship_both hl
  unfold allocate_Divide ref38_Divide
  rw [m1, m2, s1, s2]
  simp only [Option.bind_some]
  by_cases h0 : r.2 = 0
  · rw [dec_t h0]
    simp only [Bool.not_true, cond_false]
    rw [sgn_eq]
    unfold sgnP
    by_cases hd : -1099511627776 ≤ d ∧ d ≤ 1099511627776
    · rw [dec_t hd, dec_f (show ¬ d < -1099511627776 by omega), dec_f (show ¬ 1099511627776 < d by omega)]
      simp only [Option.bind_some, Bool.not_true, cond_false]
      by_cases h64 : 64 < T.length
      · rw [dec_t (show (64 : Int) < (T.length : Int) by omega)]
        exact ⟨4, [], rfl, rfl, by simp⟩
      · rw [dec_f (show ¬ (64 : Int) < (T.length : Int) by omega)]
        obtain ⟨sh, a1, a2, a3⟩ := allot_both d w
        simp only [cond_false]
        rw [a1, a2]
        simp only [Option.bind_some]
        by_cases h5 : sh.2 = 0
        · rw [dec_t h5]
          have hlen := Nat.le_of_eq (share_len2 a1 h5).symm
          obtain ⟨x1, x2⟩ := sh
          simp only at h5 hlen
          subst h5
          obtain ⟨k1, k2⟩ := div_list (T := T) (sh := x1) (by omega) (by omega) (T, w) rfl
          simp only [Bool.not_true, cond_false]
          rw [k1, k2]
          exact ⟨0, _, rfl, rfl, by simp; omega⟩
        · rw [dec_f h5]
          exact ⟨sh.2, [], rfl, rfl, by simp⟩
    · rw [dec_f hd]
      simp only [Option.bind_some, Bool.not_false, cond_true]
      refine ⟨1, [], rfl, ?_, by simp⟩
      by_cases h1 : d < -1099511627776
      · rw [dec_t h1]; rfl
      · rw [dec_f h1, dec_t (show 1099511627776 < d by omega)]; rfl
  · rw [dec_f h0]
    exact ⟨r.2, [], rfl, rfl, by simp⟩

/-! ### The law -/
theorem ints_same {a : List Int} (h : a.length ≤ 1000000) : ref23_SameInts a a = some true := by
  have := iter_for (step := fun x => ref23_SameInts_L0 a a x) a.length (fun i => (i : Int)) (e := .inl ()) (fun i hi => by
      unfold ref23_SameInts_L0
      simp only [dec_t (show (i : Int) < (a.length : Int) by omega), cond_true, gd_t (inB_t hi), decide_true, Bool.not_true, cond_false]
      rw [wi (by omega)]; rfl) (by
      unfold ref23_SameInts_L0
      simp only [dec_f (show ¬ (a.length : Int) < (a.length : Int) by omega), cond_false])
  unfold ref23_SameInts
  simp only [decide_true, Bool.not_true, cond_false]
  rw [show ((0 : Int)) = ((0 : Nat) : Int) from rfl, this]; rfl
theorem made_true {l : List Int} {raw : List Ent} {odd by' : Int} (hl : ∀ x ∈ l, i64P x) (ho : i64P odd) (hb : i64P by') : law38_AllocateMade l raw odd by' = some true := by
  refine Ok.true ?_
  have aw : Ok (law38_awake.bind fun r => some r) (fun b => b = true) := Ok.eq awake38_true (Ok.ret rfl)
  unfold law38_AllocateMade
  refine Ok.bind (Q := fun b => b = false → raw.length ≤ 100) ?_ fun b hr => ?_
  · refine Ok.eq (few_eq l) (Ok.bif (fun _ => Ok.ret fun h => by cases h) fun _ => Ok.ret fun h => ?_)
    have := of_decide_eq_false h
    omega
  refine Ok.bif (fun _ => aw) fun hbf => ?_
  have hraw := hr hbf
  obtain ⟨s, hs, s0⟩ := new_eq hl
  refine Ok.eq hs (Ok.bind (entries_eq s0 (by omega)) ?_)
  rintro _ ⟨p1, x, rfl, s1, x1, -⟩
  obtain ⟨d, p2, d1, d2, d3, d4⟩ := range_eq (lo := -100) (hi := 100) s1 (by omega) (by omega) (by omega)
  refine Ok.eq d1 ?_
  refine Ok.bind (Q := fun r => r.1.length ≤ 130) ?_ fun r hlen => ?_
  · refine Ok.bif (fun hx => ?_) fun _ => Ok.ret (by simp only; omega)
    have hx := of_decide_eq_true hx
    refine Ok.eq (smod_eq hb (by simp only at hx ⊢; omega) (by simp only at hx ⊢; omega)) ?_
    have m0 := Int.emod_nonneg by' (show ((x.length : Int)) ≠ 0 by simp only at hx; omega)
    have m1 := Int.emod_lt_of_pos by' (show (0 : Int) < (x.length : Int) by simp only at hx; omega)
    obtain ⟨k, hk⟩ : ∃ k : Nat, by' % (x.length : Int) = (k : Int) := ⟨(by' % (x.length : Int)).toNat, by omega⟩
    simp only
    rw [hk] at m1 ⊢
    have hk2 : k < x.length := by omega
    refine Ok.gd (inB_t hk2) (Ok.eq (smod_eq ho (by omega) (by omega)) ?_)
    refine Ok.bind (Q := fun r => r.1.length ≤ 130) ?_ fun r hr => Ok.ret hr
    refine Ok.bif (fun _ => Ok.eq (smod_eq hb (by omega) (by omega)) (Ok.ret (by simp only [List.length_set]; omega))) fun _ => ?_
    refine Ok.bind (Q := fun r => r.1.length ≤ 130) ?_ fun r hr => Ok.ret hr
    refine Ok.bif (fun _ => Ok.ret (by simp only [List.length_set]; omega)) fun _ => ?_
    refine Ok.bind (Q := fun r => r.1.length ≤ 130) ?_ fun r hr => Ok.ret hr
    refine Ok.bif (fun _ => ?_) fun _ => ?_
    · refine Ok.eq (smod_eq hb (by omega) (by omega)) ?_
      have n0 := Int.emod_nonneg by' (show (5 : Int) ≠ 0 by omega)
      have n1 := Int.emod_lt_of_pos by' (show (0 : Int) < 5 by omega)
      obtain ⟨q, hq⟩ : ∃ q : Nat, by' % 5 = (q : Int) := ⟨(by' % 5).toNat, by omega⟩
      rw [hq]
      refine Ok.gd (inB_t (by simp; omega)) (Ok.ret (by simp only [List.length_set]; omega))
    refine Ok.bind (Q := fun r => r.1.length ≤ 130) ?_ fun r hr => Ok.ret hr
    refine Ok.bif (fun _ => Ok.ret (by simp only; omega)) fun _ => ?_
    refine Ok.bind (Q := fun r => r.length ≤ 130) ?_ fun r hr => Ok.ret hr
    refine Ok.bif (fun _ => Ok.gd (fits_t (by omega)) (Ok.ret (by simp; omega))) fun _ => ?_
    refine Ok.bind (Q := fun r => r.length ≤ 130) ?_ fun r hr => Ok.ret hr
    exact Ok.bif (fun _ => Ok.ret (by omega)) fun _ => Ok.ret (by omega)
  · obtain ⟨m, m1, m2⟩ := meas_both r.1
    obtain ⟨e, q, q1, q2, q3⟩ := div_both (l := r.1) (by omega) r.2
    obtain ⟨T, w, t1, t2, t3, t4⟩ := ship_both (l := r.1) (by omega)
    refine Ok.eq m1 (Ok.eq m2 (Ok.eq q1 (Ok.eq q2 (Ok.eq t1 (Ok.eq t2 ?_)))))
    simp only [decide_true, Bool.not_true, cond_false]
    refine Ok.bind (Q := fun z => z = (false, T, T)) ?_ ?_
    · refine Ok.eq (same38 (by omega)) ?_
      simp only [Bool.not_true, cond_false]
      exact Ok.eq (ints_same (by omega)) (Ok.ret rfl)
    · rintro _ rfl
      simp only [cond_false]
      have k := iter_for (step := fun x : Int × List (List UInt8) × List (List UInt8) => law38_AllocateMade_L0 x.1 x.2.1 x.2.2) T.length (fun i => ((i : Int), T, T)) (e := .inl ()) (fun i hi => by
          unfold law38_AllocateMade_L0
          simp only [dec_t (show (i : Int) < (T.length : Int) by omega), cond_true, gd_t (inB_t hi), decide_true, Bool.not_true, cond_false]
          rw [wi (by omega)]; rfl) (by
          unfold law38_AllocateMade_L0
          simp only [dec_f (show ¬ (T.length : Int) < (T.length : Int) by omega), cond_false])
      rw [show (0 : Int) = ((0 : Nat) : Int) from rfl]
      refine Ok.eq k ?_
      exact aw
end Go.Proofs.Ytmleldfhkangbaa
