/- The law AllocateTurned. No condition. -/
import Derived.Test.YtmleldfhkangbaaAc7
import Derived.Test.YtmleldfhkangbaaInS
namespace Go.Proofs.Ytmleldfhkangbaa
open Go Go.Sq

/-! ### What is measured -/
def gM (e : Ent) : Int := if e.2.1 = 1 then -e.2.2 else if e.2.1 = 2 ∨ e.2.1 = 3 then e.2.2 else 0
theorem gM_bd {e : Ent} (h : EntP e) : -1073741824 ≤ gM e ∧ gM e ≤ 1073741824 := by
  have := h.vol
  unfold gM
  split
  · omega
  · split <;> omega
theorem gM_sum {x : List Ent} (hx : ∀ e ∈ x, EntP e) (hl : x.length ≤ 1000) : -1073741824000 ≤ isum (x.map gM) ∧ isum (x.map gM) ≤ 1073741824000 := by
  have := isum_bd (l := x.map gM) (a := -1073741824) (b := 1073741824) fun v hv => by
    obtain ⟨e, he, rfl⟩ := List.mem_map.1 hv
    exact gM_bd (hx e he)
  rw [List.length_map] at this
  omega
theorem meas_eq {l : List Ent} (hl : l.length ≤ 1000) (h : ∀ e ∈ l, EntP e) : allocate_Measured l = some (isum (l.map gM), 0) := by
  unfold allocate_Measured
  rw [dec_f (show ¬ (1000 : Int) < (l.length : Int) by omega)]
  have key := iter_for (step := fun x : Int × Int => allocate_Measured_L0 l x.1 x.2) l.length (fun i => (isum ((l.map gM).take i), (i : Int))) (e := .inl (isum (l.map gM))) (fun i hi => by
      have hm := h _ (gD_mem (d := e0) hi)
      have b0 := gM_sum (x := l.take i) (fun e he => h e (List.mem_of_mem_take he)) (by rw [List.length_take]; omega)
      rw [List.map_take] at b0
      have b1 := gM_bd hm
      have b2 := hm.kind
      have b3 := hm.vol
      have hsum : isum ((l.map gM).take (i + 1)) = isum ((l.map gM).take i) + gM (l.getD i e0) := by
        rw [isum_next (by simpa using hi), gD_map gM l i e0 0 hi]
      unfold allocate_Measured_L0
      simp only [dec_t (show (i : Int) < (l.length : Int) by omega), cond_true, gd_t (inB_t hi), Int.toNat_natCast, show (([], (0, 0)) : Ent) = e0 from rfl]
      rw [show allocate_Entry ((l.getD i e0).1, ((l.getD i e0).2.1, (l.getD i e0).2.2)) = some (entP (l.getD i e0)) from ent_eq _, hm.ok, hsum]
      simp only [Option.bind_some, Bool.not_true, cond_false]
      rw [show wi64 ((i : Int) + 1) = ((i + 1 : Nat) : Int) by rw [wi (by omega)]; rfl]
      by_cases k1 : (l.getD i e0).2.1 = 1
      · have e : gM (l.getD i e0) = -(l.getD i e0).2.2 := by unfold gM; rw [if_pos k1]
        rw [dec_t k1, e, wi (by omega), Int.sub_eq_add_neg]; rfl
      · by_cases k2 : (l.getD i e0).2.1 = 2
        · have e : gM (l.getD i e0) = (l.getD i e0).2.2 := by unfold gM; rw [if_neg k1, if_pos (.inl k2)]
          rw [dec_f k1, dec_t k2, e, show wi64 (isum ((l.map gM).take i) + (l.getD i e0).2.2) = isum ((l.map gM).take i) + (l.getD i e0).2.2 from wi (by omega)]; rfl
        · by_cases k3 : (l.getD i e0).2.1 = 3
          · have e : gM (l.getD i e0) = (l.getD i e0).2.2 := by unfold gM; rw [if_neg k1, if_pos (.inr k3)]
            rw [dec_f k1, dec_f k2, dec_t k3, e, show wi64 (isum ((l.map gM).take i) + (l.getD i e0).2.2) = isum ((l.map gM).take i) + (l.getD i e0).2.2 from wi (by omega)]; rfl
          · have e : gM (l.getD i e0) = 0 := by unfold gM; rw [if_neg k1, if_neg (by omega)]
            rw [dec_f k1, dec_f k2, dec_f k3, e, Int.add_zero]; rfl) (by
      unfold allocate_Measured_L0
      simp only [dec_f (show ¬ (l.length : Int) < (l.length : Int) by omega), cond_false]
      rw [List.take_of_length_le (by simp)])
  have e0' : ((isum ((l.map gM).take 0), ((0 : Nat) : Int)) : Int × Int) = (0, 0) := by simp [isum]
  rw [e0'] at key
  simp only [cond_false]
  rw [key]; rfl

/-! ### Shippers -/
theorem keyS_iff {a b : List UInt8} : keyS a b = true ↔ a = b := by
  show decide (a = b) = true ↔ _
  exact ⟨of_decide_eq_true, fun h => decide_eq_true h⟩
theorem keyS_no {a b : List UInt8} (h : a ≠ b) : keyS a b = false := by
  cases hb : keyS a b with
  | false => rfl
  | true => exact absurd (keyS_iff.1 hb) h
theorem keyS_self (a : List UInt8) : keyS a a = true := keyS_iff.2 rfl
theorem mget_put {V : Type} : ∀ {l : List (List UInt8 × V)} {x s : List UInt8} {y : V}, mget keyS (mput keyS l x y) s = if s = x then some y else mget keyS l s
  | [], x, s, y => by
    by_cases h : s = x
    · subst h; simp [mput, mget, keyS_self]
    · simp [mput, mget, keyS_no h, h]
  | p :: r, x, s, y => by
    have ih := mget_put (l := r) (x := x) (s := s) (y := y)
    by_cases hx : x = p.1
    · subst hx
      by_cases h : s = p.1
      · subst h; simp [mput, mget, keyS_self]
      · simp [mput, mget, keyS_self, keyS_no h, h]
    · by_cases h : s = p.1
      · subst h
        simp [mput, mget, keyS_no hx, keyS_self, Ne.symm hx]
      · simp [mput, mget, keyS_no hx, keyS_no h, ih]

theorem totE_bd {x : List Ent} (hx : ∀ e ∈ x, EntP e) (s : List UInt8) : 0 ≤ totE g2 x s ∧ totE g2 x s ≤ x.length * 1073741824 := by
  have := isum_bd (l := x.map fun e => if e.1 = s then g2 e else 0) (a := 0) (b := 1073741824) fun v hv => by
    obtain ⟨e, he, rfl⟩ := List.mem_map.1 hv
    have h1 := (hx e he).vol
    have h2 := (hx e he).pos
    unfold g2
    split
    · split
      · have := h2 (by omega); omega
      · omega
    · omega
  rw [List.length_map] at this
  unfold totE
  omega
theorem totE_snoc {g : Ent → Int} {x : List Ent} {e : Ent} {s : List UInt8} : totE g (x ++ [e]) s = totE g x s + if e.1 = s then g e else 0 := by
  unfold totE
  simp only [List.map_append, isum_app, List.map_cons, List.map_nil, isum]; omega
theorem totE_none {g : Ent → Int} : ∀ {x : List Ent} {s : List UInt8}, (∀ e ∈ x, e.1 ≠ s) → totE g x s = 0
  | [], _, _ => rfl
  | e :: x, s, h => by
    have := totE_none (g := g) (x := x) (s := s) fun q hq => h q (by simp [hq])
    unfold totE at this ⊢
    simp only [List.map_cons, isum, if_neg (h e (by simp)), this]; rfl

/-- The names met, and what each has. -/
structure ShipP (x : List Ent) (moved : List (List UInt8 × Int)) (names : List (List UInt8)) : Prop where
  nodup : names.Nodup
  mem : ∀ s, s ∈ names ↔ ∃ e ∈ x, e.1 = s
  get : ∀ s, mget keyS moved s = if s ∈ names then some (totE g2 x s) else none
theorem ShipP.step {x : List Ent} {moved : List (List UInt8 × Int)} {names : List (List UInt8)} (h : ShipP x moved names) (e : Ent) {moved' : List (List UInt8 × Int)} {names' : List (List UInt8)}
    (hn : names' = if e.1 ∈ names then names else names ++ [e.1]) (hm : ∀ s, mget keyS moved' s = if s = e.1 then some (totE g2 x e.1 + g2 e) else mget keyS moved s) : ShipP (x ++ [e]) moved' names' := by
  subst hn
  have hmem : ∀ s, s ∈ (if e.1 ∈ names then names else names ++ [e.1]) ↔ s ∈ names ∨ e.1 = s := by
    intro s
    split
    · next hc =>
      constructor
      · exact .inl
      · rintro (h | rfl)
        · exact h
        · exact hc
    · rw [List.mem_append, List.mem_singleton]
      exact or_congr Iff.rfl eq_comm
  refine ⟨?_, fun s => ?_, fun s => ?_⟩
  · split
    · exact h.nodup
    · next hc => exact List.nodup_append.2 ⟨h.nodup, by simp, fun a ha b hb => by rw [List.mem_singleton.1 hb]; rintro rfl; exact hc ha⟩
  · rw [hmem, h.mem]
    simp only [List.mem_append, List.mem_singleton]
    constructor
    · rintro (⟨q, hq, hs⟩ | hs)
      · exact ⟨q, .inl hq, hs⟩
      · exact ⟨e, .inr rfl, hs⟩
    · rintro ⟨q, hq | rfl, hs⟩
      · exact .inl ⟨q, hq, hs⟩
      · exact .inr hs
  · rw [hm, totE_snoc]
    by_cases hs : s = e.1
    · subst hs
      rw [if_pos rfl, if_pos ((hmem e.1).2 (.inr rfl)), if_pos rfl]
    · rw [if_neg hs, h.get, if_neg (show ¬ e.1 = s from fun h => hs h.symm), Int.add_zero]
      by_cases hc : s ∈ names
      · rw [if_pos hc, if_pos ((hmem s).2 (.inl hc))]
      · rw [if_neg hc, if_neg (fun h' => ((hmem s).1 h').elim hc (fun e => hs e.symm))]

theorem ship_L0 {l : List Ent} (hl : l.length ≤ 1000) (h : ∀ e ∈ l, EntP e) : Ok (iter (fun x : Int × List (List UInt8 × Int) × List (List UInt8) => allocate_Shippers_L0 l x.1 x.2.1 x.2.2) (0, [], [])) fun r => ShipP l r.1 r.2 := by
  refine Ok.loop (fun z => ∃ (i : Nat) (moved : List (List UInt8 × Int)) (names : List (List UInt8)), z = ((i : Int), moved, names) ∧ i ≤ l.length ∧ names.length ≤ i ∧ ShipP (l.take i) moved names) (fun z => ((l.length : Int) - z.1).toNat)
    ⟨0, [], [], rfl, by omega, by simp, ⟨by simp, by simp, fun s => rfl⟩⟩ ?_
  rintro _ ⟨i, moved, names, rfl, h1, h2, h3⟩
  unfold allocate_Shippers_L0
  simp only
  refine Ok.bif (fun hlt => ?_) (fun hlt => Ok.ret ?_)
  · have hlt := of_decide_eq_true hlt
    have hi : i < l.length := by omega
    have hm := h _ (gD_mem (d := e0) hi)
    have b1 := totE_bd (x := l.take i) (fun e he => h e (List.mem_of_mem_take he)) (l.getD i e0).1
    rw [List.length_take] at b1
    have b2 := hm.vol
    refine Ok.gd (inB_t hi) ?_
    rw [Int.toNat_natCast, show (([], (0, 0)) : Ent) = e0 from rfl]
    -- a new name
    refine Ok.bind (Q := fun r => r.2 = (if (l.getD i e0).1 ∈ names then names else names ++ [(l.getD i e0).1]) ∧ r.2.length ≤ i + 1 ∧ ∀ s, mget keyS r.1 s = if s = (l.getD i e0).1 then some (totE g2 (l.take i) (l.getD i e0).1) else mget keyS moved s) ?_ ?_
    · by_cases hc : (l.getD i e0).1 ∈ names
      · have hg := h3.get (l.getD i e0).1
        rw [if_pos hc] at hg
        rw [hg]
        refine Ok.bif (fun h => by cases h) (fun _ => Ok.ret ⟨by rw [if_pos hc], by simp only; omega, fun s => ?_⟩)
        by_cases hs : s = (l.getD i e0).1
        · rw [if_pos hs, hs, hg]
        · rw [if_neg hs]
      · have hg := h3.get (l.getD i e0).1
        rw [if_neg hc] at hg
        rw [hg]
        refine Ok.bif (fun _ => Ok.gd (fits_t (by omega)) (Ok.ret ⟨by rw [if_neg hc], by simp; omega, fun s => ?_⟩)) (fun h => by cases h)
        have h0 : totE g2 (l.take i) (l.getD i e0).1 = 0 := totE_none fun e he hs => hc ((h3.mem _).2 ⟨e, he, hs⟩)
        simp only
        rw [mget_put, h0]
    rintro ⟨mv, nm⟩ ⟨k1, k2, k3⟩
    simp only at k1 k2 k3
    refine Ok.bind (Q := fun r => r = (decide ((l.getD i e0).2.1 = 2), mv, nm)) ?_ ?_
    · refine Ok.bif (fun h2' => ?_) (fun h2' => Ok.ret ?_)
      · rw [vol_eq]
        refine Ok.eq rfl (Ok.ret ?_)
        have hk := of_decide_eq_true h2'
        have := hm.pos (by omega)
        rw [h2', show volP (l.getD i e0).2.2 = true from dec_t (by omega)]
      · rw [h2']
    rintro _ rfl
    refine Ok.bind (Q := fun r => r.2 = nm ∧ ∀ s, mget keyS r.1 s = if s = (l.getD i e0).1 then some (totE g2 (l.take i) (l.getD i e0).1 + g2 (l.getD i e0)) else mget keyS moved s) ?_ ?_
    · refine Ok.bif (fun h2' => Ok.ret ⟨rfl, fun s => ?_⟩) (fun h2' => Ok.ret ⟨rfl, fun s => ?_⟩)
      · have hk := of_decide_eq_true h2'
        have hg : g2 (l.getD i e0) = (l.getD i e0).2.2 := by unfold g2; rw [if_pos hk]
        simp only
        rw [mget_put, k3 (l.getD i e0).1, if_pos rfl, Option.getD_some, wi (by omega), hg, k3 s]
        split <;> rfl
      · have hk := of_decide_eq_false h2'
        have hg : g2 (l.getD i e0) = 0 := by unfold g2; rw [if_neg hk]
        simp only
        rw [hg, Int.add_zero, k3 s]
    rintro ⟨mv2, nm2⟩ ⟨k4, k5⟩
    simp only at k4 k5
    refine Ok.ret ?_
    simp only
    rw [wi (by omega)]
    refine ⟨⟨i + 1, mv2, nm2, rfl, by omega, by rw [k4]; exact k2, ?_⟩, by omega⟩
    rw [take_next e0 hi]
    exact h3.step (l.getD i e0) (by rw [k4, k1]) k5
  · have hlt := of_decide_eq_false hlt
    rwa [List.take_of_length_le (by omega)] at h3

theorem nd_len {A : Type} [DecidableEq A] : ∀ {l L : List A}, l.Nodup → (∀ x ∈ l, x ∈ L) → l.length ≤ L.length
  | [], _, _, _ => Nat.zero_le _
  | a :: l, L, h, hs => by
    rw [List.nodup_cons] at h
    have ha := hs a (by simp)
    have := nd_len (l := l) (L := L.erase a) h.2 fun x hx => (List.mem_erase_of_ne (fun e => h.1 (by rw [← e]; exact hx))).2 (hs x (by simp [hx]))
    rw [List.length_erase_of_mem ha] at this
    have hp := List.length_pos_of_mem ha
    simp only [List.length_cons]; omega

def cmpB (a b : List UInt8) : Int := Lib.compareBytes a b
theorem cmpB_ord : Sstring.Ord cmpB := by
  have hlt : ∀ x y, cmpB x y < 0 ↔ Op.bytesLess x y = true := fun x y => (cmp_spec x y).1
  refine ⟨fun x y h h' => ?_, fun x y z h h' h'' => ?_⟩
  · rw [hlt] at h h'
    rw [bl_asym h] at h'; cases h'
  · rw [hlt] at h h' h''
    rcases bl_tri x y with h1 | h1 | h1
    · exact h' (bl_trans h'' h1)
    · subst h1; exact h' h''
    · exact h h1
theorem ship_cmp : Sstring.CmpOn (fun h => (allocate_Shippers_1 h.1 h.2.1).bind fun y => some y) cmpB (fun _ => True) := fun x y _ _ => rfl

theorem shippers_ok {l : List Ent} (hl : l.length ≤ 1000) (h : ∀ e ∈ l, EntP e) : ∃ T, allocate_Shippers l = some (T, T.map (totE g2 l)) ∧ T.Pairwise (fun a b => Op.bytesLess a b = true) ∧ (∀ s, s ∈ T ↔ ∃ e ∈ l, e.1 = s) ∧ T.length ≤ 5 := by
  obtain ⟨⟨moved, names⟩, q1, q2⟩ := ship_L0 hl h
  simp only at q2
  have hlen : names.length ≤ 5 := nd_len (L := [[97], [98, 111], [99, 51], [100, 101, 108, 116, 97], [101]]) q2.nodup fun s hs => by
    obtain ⟨e, he, rfl⟩ := (q2.mem s).1 hs
    exact (h e he).nm
  obtain ⟨T, p1, p2, p3⟩ := Sstring.sort_short ship_cmp cmpB_ord (S := names) (fun _ _ => trivial) (by omega)
  have hTl : T.length = names.length := p1.length_eq
  have hmem : ∀ s, s ∈ T ↔ s ∈ names := fun s => p1.mem_iff
  have L1 := iter_for (step := fun x : Int × List (List UInt8 × Int) × List (List UInt8) × List Int => allocate_Shippers_L1 T x.1 x.2.1 x.2.2.1 x.2.2.2) T.length (fun i => ((i : Int), moved, T, (T.map (totE g2 l)).take i)) (e := (T, T.map (totE g2 l))) (fun i hi => by
      have hm := gD_mem (d := ([] : List UInt8)) hi
      have hg := q2.get (T.getD i [])
      rw [if_pos ((hmem _).1 hm)] at hg
      have hlt : ((T.map (totE g2 l)).take i).length = i := by simp; omega
      unfold allocate_Shippers_L1
      simp only [dec_t (show (i : Int) < (T.length : Int) by omega), cond_true, gd_t (inB_t hi), Int.toNat_natCast, hlt, gd_t (fits_t (n := i + 1) (b := 8) (by omega)), hg, Option.getD_some]
      rw [take_next 0 (by simpa using hi), gD_map (totE g2 l) T i [] 0 hi, wi (by omega)]; rfl) (by
      unfold allocate_Shippers_L1
      simp only [dec_f (show ¬ (T.length : Int) < (T.length : Int) by omega), cond_false]
      rw [List.take_of_length_le (by simp)])
  refine ⟨T, ?_, ?_, fun s => (hmem s).trans (q2.mem s), by omega⟩
  · unfold allocate_Shippers
    rw [q1]
    simp only [Option.bind_some]
    rw [p3]
    simp only [Option.bind_some]
    have : (((0 : Nat) : Int), moved, T, (T.map (totE g2 l)).take 0) = ((0 : Int), moved, T, ([] : List Int)) := by simp
    rw [this] at L1
    rw [L1]; rfl
  · have hnd : T.Nodup := p1.nodup_iff.2 q2.nodup
    have := p2.and hnd
    refine this.imp fun {a b} hab => ?_
    have hlt : ¬ Op.bytesLess b a = true := fun hb => hab.1 ((cmp_spec b a).1.2 hb)
    rcases bl_tri a b with h1 | h1 | h1
    · exact h1
    · exact absurd h1 hab.2
    · exact absurd h1 hlt

theorem divide_eq {l : List Ent} {d : Int} {T : List (List UInt8)} {sh : List Int} (hl : l.length ≤ 1000) (h : ∀ e ∈ l, EntP e) (hd : -1099511627776 ≤ d ∧ d ≤ 1099511627776) (hs : allocate_Shippers l = some (T, T.map (totE g2 l))) (hT : T.length ≤ 64) (hsh : ShF d (T.map (totE g2 l)) sh) :
    allocate_Divide l d = some (0, (List.range T.length).map fun i => (T.getD i [], (4, sh.getD i 0))) := by
  have hlen := hsh.len
  rw [List.length_map] at hlen
  obtain ⟨r, a1, a2, _⟩ := allot_both d (T.map (totE g2 l))
  rw [hsh.ok] at a2; injection a2 with a2; subst a2
  unfold allocate_Divide
  rw [meas_eq hl h, hs]
  simp only [Option.bind_some, decide_true, Bool.not_true, cond_false, sgn_eq]
  rw [show sgnP d = true from dec_t hd]
  simp only [Bool.not_true, cond_false, dec_f (show ¬ (64 : Int) < (T.length : Int) by omega), a1, Option.bind_some, decide_true]
  have key := iter_for (step := fun x : Int × List Ent × List (List UInt8) => allocate_Divide_L0 (T, T.map (totE g2 l)) (sh, 0) x.1 x.2.1 x.2.2) T.length (fun i => ((i : Int), ((List.range T.length).map fun i => (T.getD i [], ((4 : Int), sh.getD i 0))).take i, T)) (e := (List.range T.length).map fun i => (T.getD i [], (4, sh.getD i 0))) (fun i hi => by
      have hlt : (((List.range T.length).map fun i => (T.getD i [], ((4 : Int), sh.getD i 0))).take i).length = i := by simp; omega
      have hr : (List.range T.length).getD i 0 = i := by rw [gD_eq (by simpa using hi)]; simp
      unfold allocate_Divide_L0
      simp only [dec_t (show (i : Int) < (T.length : Int) by omega), cond_true, gd_t (inB_t hi), gd_t (inB_t (show i < sh.length by omega)), Int.toNat_natCast, hlt, gd_t (fits_t (n := i + 1) (b := 32) (by omega))]
      rw [take_next e0 (by simpa using hi), gD_map (fun i => (T.getD i [], ((4 : Int), sh.getD i 0))) (List.range T.length) i 0 e0 (by simpa using hi), hr, wi (by omega)]; rfl) (by
      unfold allocate_Divide_L0
      simp only [dec_f (show ¬ (T.length : Int) < (T.length : Int) by omega), cond_false]
      rw [List.take_of_length_le (by simp)])
  have : (((0 : Nat) : Int), ((List.range T.length).map fun i => (T.getD i [], ((4 : Int), sh.getD i 0))).take 0, T) = ((0 : Int), ([] : List Ent), T) := by simp
  rw [this] at key
  rw [key]; rfl

/-! ### Entries in another order, some of them in two -/
/-- y is x in pieces. -/
structure Cut (x y : List Ent) : Prop where
  ok : ∀ e ∈ y, EntP e
  len : y.length ≤ 2 * x.length
  mem : ∀ s, (∃ e ∈ y, e.1 = s) ↔ ∃ e ∈ x, e.1 = s
  tot : ∀ s, totE g2 y s = totE g2 x s
  sum : isum (y.map gM) = isum (x.map gM)
theorem Cut.one {x y : List Ent} (h : Cut x y) {e : Ent} (he : EntP e) : Cut (x ++ [e]) (y ++ [e]) := by
  refine ⟨fun q hq => ?_, by simp; have := h.len; omega, fun s => ?_, fun s => by rw [totE_snoc, totE_snoc, h.tot], by simp only [List.map_append, isum_app, h.sum]⟩
  · rcases List.mem_append.1 hq with hq | hq
    · exact h.ok q hq
    · rw [List.mem_singleton.1 hq]; exact he
  · have := h.mem s
    simp only [List.mem_append, List.mem_singleton]
    constructor
    · rintro ⟨q, hq | rfl, hs⟩
      · obtain ⟨q2, a, b⟩ := this.1 ⟨q, hq, hs⟩; exact ⟨q2, .inl a, b⟩
      · exact ⟨q, .inr rfl, hs⟩
    · rintro ⟨q, hq | rfl, hs⟩
      · obtain ⟨q2, a, b⟩ := this.2 ⟨q, hq, hs⟩; exact ⟨q2, .inl a, b⟩
      · exact ⟨q, .inr rfl, hs⟩
theorem Cut.two {x y : List Ent} (h : Cut x y) {e e1 e2 : Ent} (h1 : EntP e1) (h2 : EntP e2) (n1 : e1.1 = e.1) (n2 : e2.1 = e.1) (hg : g2 e1 + g2 e2 = g2 e) (hm : gM e1 + gM e2 = gM e) : Cut (x ++ [e]) (y ++ [e1] ++ [e2]) := by
  refine ⟨fun q hq => ?_, by simp; have := h.len; omega, fun s => ?_, fun s => ?_, ?_⟩
  · rcases List.mem_append.1 hq with hq | hq
    · rcases List.mem_append.1 hq with hq | hq
      · exact h.ok q hq
      · rw [List.mem_singleton.1 hq]; exact h1
    · rw [List.mem_singleton.1 hq]; exact h2
  · have := h.mem s
    simp only [List.mem_append, List.mem_singleton]
    constructor
    · rintro ⟨q, (hq | rfl) | rfl, hs⟩
      · obtain ⟨q2, a, b⟩ := this.1 ⟨q, hq, hs⟩; exact ⟨q2, .inl a, b⟩
      · exact ⟨e, .inr rfl, n1.symm.trans hs⟩
      · exact ⟨e, .inr rfl, n2.symm.trans hs⟩
    · rintro ⟨q, hq | rfl, hs⟩
      · obtain ⟨q2, a, b⟩ := this.2 ⟨q, hq, hs⟩; exact ⟨q2, .inl (.inl a), b⟩
      · exact ⟨e1, .inl (.inr rfl), n1.trans hs⟩
  · rw [totE_snoc, totE_snoc, totE_snoc, h.tot, n1, n2, ← hg]
    split <;> omega
  · have := h.sum
    simp only [List.map_append, isum_app, List.map_cons, List.map_nil, isum] at this ⊢
    omega

theorem turned_L0 {x : List Ent} {t : Nat} {s : List Int} {p : Int} (hx : ∀ e ∈ x, EntP e) (hl : x.length ≤ 60) (ht : t ≤ 255) (hs : SrcOk s p) :
    Ok (iter (fun z : Int × List Int × Int × List Ent × List Ent => law38_AllocateTurned_L0 (t : Int) z.1 z.2.1 z.2.2.1 z.2.2.2.1 z.2.2.2.2) (0, s, p, x, [])) fun r => r.1 = x ∧ Cut (rot x t) r.2 := by
  have hrl : (rot x t).length = x.length := by simp [rot]
  refine Ok.loop (fun z => ∃ (i : Nat) (p : Int) (y : List Ent), z = ((i : Int), s, p, x, y) ∧ i ≤ x.length ∧ SrcOk s p ∧ Cut ((rot x t).take i) y) (fun z => ((x.length : Int) - z.1).toNat)
    ⟨0, p, [], rfl, by omega, hs, ⟨by simp, by simp, by simp, fun _ => rfl, rfl⟩⟩ ?_
  rintro _ ⟨i, p, y, rfl, h1, h2, h3⟩
  unfold law38_AllocateTurned_L0
  simp only
  refine Ok.bif (fun hlt => ?_) (fun hlt => Ok.ret ⟨rfl, ?_⟩)
  · have hlt := of_decide_eq_true hlt
    have hi : i < x.length := by omega
    have hmod : Int.tmod (wi64 ((i : Int) + wi64 (t : Int))) (x.length : Int) = (((i + t) % x.length : Nat) : Int) := by
      rw [show wi64 (t : Int) = (t : Int) from wi (by omega), wi (by omega)]; rfl
    have hmlt := Nat.mod_lt (i + t) (show 0 < x.length by omega)
    rw [hmod, Int.toNat_natCast, show (([], (0, 0)) : Ent) = e0 from rfl]
    have hnext : (rot x t).take (i + 1) = (rot x t).take i ++ [x.getD ((i + t) % x.length) e0] := by
      rw [take_next e0 (by omega)]
      congr 2
      unfold rot
      rw [gD_map (fun j => x.getD ((j + t) % x.length) e0) (List.range x.length) i 0 e0 (by simpa using hi)]
      rw [show (List.range x.length).getD i 0 = i by rw [gD_eq (by simpa using hi)]; simp]
    have hm := hx _ (gD_mem (d := e0) hmlt)
    generalize x.getD ((i + t) % x.length) e0 = e at hnext hm
    have hv := hm.vol
    have hyl := h3.len
    rw [List.length_take] at hyl
    refine Ok.gd (by rw [dec_f (show ¬ (x.length : Int) = 0 by omega)]; rfl) (Ok.gd (inB_t hmlt) ?_)
    rw [show wi64 (e.2.2 + 1) = e.2.2 + 1 from wi (by omega)]
    obtain ⟨k, p1, q1, q2, q3, q4⟩ := n_eq (n := max 1 (e.2.2 + 1)) h2 (by omega) (by omega)
    refine Ok.eq q1 ?_
    simp only
    refine Ok.bind (Q := fun r => ∃ b : Bool, r = (b, x, y) ∧ (b = true → e.2.1 ≠ 4 ∧ 0 < k)) ?_ ?_
    · refine Ok.bif (fun h4 => Ok.ret ⟨_, rfl, fun hk => ⟨?_, of_decide_eq_true hk⟩⟩) (fun _ => Ok.ret ⟨_, rfl, fun h => by cases h⟩)
      simpa using h4
    rintro _ ⟨b, rfl, hb⟩
    simp only
    refine Ok.bind (Q := fun r => ∃ (v : Int) (y' : List Ent), r = (v, x, y') ∧ y'.length ≤ 200 ∧ Cut ((rot x t).take (i + 1)) (y' ++ [(e.1, (e.2.1, v))])) ?_ ?_
    · refine Ok.bif (fun hbt => ?_) (fun _ => Ok.ret ⟨e.2.2, y, rfl, by omega, ?_⟩)
      · obtain ⟨h4, hk⟩ := hb hbt
        refine Ok.gd (fits_t (by omega)) (Ok.ret ⟨e.2.2 - k, y ++ [(e.1, (e.2.1, k))], ?_, by simp; omega, ?_⟩)
        · rw [wi (by omega)]
        · rw [hnext]
          have hp := hm.pos h4
          have hkd := hm.kind
          refine h3.two (ent_ok hm.nm hkd (by omega) (by omega)) (ent_ok hm.nm hkd (by omega) (by omega)) rfl rfl ?_ ?_
          · unfold g2
            simp only
            split <;> omega
          · unfold gM
            simp only
            split
            · omega
            · split <;> omega
      · rw [hnext]
        exact h3.one hm
    rintro _ ⟨v, y', rfl, hy, hc⟩
    simp only
    refine Ok.gd (fits_t (by omega)) (Ok.ret ?_)
    rw [wi (by omega)]
    exact ⟨⟨i + 1, p1, _, rfl, by omega, q4, hc⟩, by simp only; omega⟩
  · have hlt := of_decide_eq_false hlt
    rwa [List.take_of_length_le (by omega)] at h3

theorem turned_true {l : List Int} {turn d : Int} (hl : ∀ x ∈ l, i64P x) (ht : 0 ≤ turn ∧ turn ≤ 255) (hd : -32768 ≤ d ∧ d ≤ 32767) : law38_AllocateTurned l turn d = some true := by
  obtain ⟨t, rfl⟩ : ∃ t : Nat, turn = (t : Int) := ⟨turn.toNat, by omega⟩
  refine Ok.true ?_
  unfold law38_AllocateTurned
  rw [few_eq]
  refine Ok.eq rfl (Ok.bif (fun _ => Ok.eq awake38_true (Ok.ret rfl)) (fun _ => ?_))
  obtain ⟨s, q1, q2⟩ := new_eq hl
  refine Ok.eq q1 (Ok.bind (entries_eq q2 (by omega)) ?_)
  rintro _ ⟨p1, x, rfl, a1, a2, a3⟩
  simp only
  refine Ok.gd (fits_t (by omega)) ?_
  have ex : ∀ e ∈ x ++ [([97], (2, 5))], EntP e := fun e he => by
    rcases List.mem_append.1 he with he | he
    · exact a3 e he
    · rw [List.mem_singleton.1 he]
      exact ent_ok (by simp) (by omega) (by omega) (by omega)
  have exl : (x ++ [(([97], (2, 5)) : Ent)]).length ≤ 60 := by simp; omega
  have ha : ([97] : List UInt8) ∈ (x ++ [(([97], (2, 5)) : Ent)]).map (·.1) := by simp
  have htot : 5 ≤ totE g2 (x ++ [([97], (2, 5))]) [97] := by
    have := (totE_bd a3 [97]).1
    rw [totE_snoc, if_pos rfl, show g2 ([97], (2, 5)) = 5 from rfl]; omega
  generalize hz : x ++ [(([97], (2, 5)) : Ent)] = z at ex exl ha htot
  refine Ok.bind (turned_L0 ex exl (by omega) a1) ?_
  rintro ⟨x', y⟩ ⟨h1, hc⟩
  simp only at h1 hc ⊢
  subst h1
  have hwd : wi64 d = d := wi (by omega)
  rw [hwd]
  have hrp := rot_perm x' t
  have hyl := hc.len
  rw [show (rot x' t).length = x'.length from hrp.length_eq] at hyl
  have etot : ∀ s, totE g2 y s = totE g2 x' s := fun s => (hc.tot s).trans (isum_perm (hrp.map _))
  obtain ⟨T, t1, t2, t3, t4⟩ := shippers_ok (l := x') (by omega) ex
  obtain ⟨T', u1, u2, u3, u4⟩ := shippers_ok (l := y) (by omega) hc.ok
  have hmem : ∀ s, s ∈ T ↔ s ∈ T' := fun s => by
    rw [t3, u3, hc.mem]
    constructor
    · rintro ⟨e, he, hs⟩; exact ⟨e, hrp.mem_iff.2 he, hs⟩
    · rintro ⟨e, he, hs⟩; exact ⟨e, hrp.mem_iff.1 he, hs⟩
  have nd : ∀ {T : List (List UInt8)}, T.Pairwise (fun a b => Op.bytesLess a b = true) → T.Nodup := fun p => List.Pairwise.imp (fun {a b} (h : Op.bytesLess a b = true) (e : a = b) => bl_ne h e) p
  have hTT : T = T' := ((List.perm_ext_iff_of_nodup (nd t2) (nd u2)).2 hmem).eq_of_pairwise (fun a b _ _ h h' => by
    have := bl_trans h h'
    rw [bl_irrefl] at this; cases this) t2 u2
  subst hTT
  have hweq : T.map (totE g2 y) = T.map (totE g2 x') := List.map_congr_left fun s _ => etot s
  have hwb : ∀ v ∈ T.map (totE g2 x'), 0 ≤ v ∧ v ≤ 1125899906842624 := fun v hv => by
    obtain ⟨q, hq, rfl⟩ := List.mem_map.1 hv
    have := totE_bd ex q
    omega
  have hsum : isum (T.map (totE g2 x')) ≠ 0 := by
    have h97 : ([97] : List UInt8) ∈ T := (t3 _).2 (by
      obtain ⟨e, he, hs⟩ := List.mem_map.1 ha
      exact ⟨e, he, hs⟩)
    have := isum_mem (fun v hv => (hwb v hv).1) (List.mem_map_of_mem (f := totE g2 x') h97)
    omega
  obtain ⟨sh, hsh⟩ := share_any (t := d) (w := T.map (totE g2 x')) (by simp; omega) hwb (by omega) (fun _ => hsum)
  refine Ok.eq (divide_eq (by omega) ex (by omega) t1 (by omega) hsh) ?_
  refine Ok.eq (divide_eq (by omega) hc.ok (by omega) u1 (by omega) (by rw [hweq]; exact hsh)) ?_
  refine Ok.eq (meas_eq (by omega) ex) (Ok.eq (meas_eq (by omega) hc.ok) ?_)
  have hms : isum (y.map gM) = isum (x'.map gM) := hc.sum.trans (isum_perm (hrp.map _))
  simp only [decide_true, cond_true, hms]
  exact Ok.eq (same38 (by simp; omega)) (Ok.bif (fun _ => Ok.eq awake38_true (Ok.ret rfl)) (fun h => by cases h))
end Go.Proofs.Ytmleldfhkangbaa
