/- Tables of products: what is formatted is parsed again. No condition. -/
import Derived.Test.YtihbfecdccamoaaGreatDoorPr7
namespace Go.Proofs.YtihbfecdccamoaaGreatDoor
open Go Go.Sq
set_option linter.unusedVariables false

/-! ### Numerals -/
theorem digs_dec : ∀ u : Nat, Digs u (Lib.decDigits u) := by
  intro u
  induction u using Nat.strongRecOn with
  | ind u ih =>
    by_cases h : u < 10
    · rw [Lib.decDigits_one h, show UInt8.ofNat (48 + u) = chr u by unfold chr; rw [Nat.mod_eq_of_lt h]]
      have hn := chr_nat u
      rw [Nat.mod_eq_of_lt h] at hn
      refine ⟨by simp, by simp [chr_dig], ?_, fun h0 e => ?_, fun h0 => by subst h0; rfl⟩
      · show 0 * 10 + ((chr u).toNat - 48) = u
        omega
      · have e' : chr u = 48 := e
        rw [e'] at hn
        have : (48 : UInt8).toNat = 48 := rfl
        omega
    · have h10 := ih (u / 10) (by omega)
      rw [Lib.decDigits, dif_neg h]
      refine ⟨by simp, ?_, ?_, fun h0 => ?_, fun h0 => by omega⟩
      · rw [List.all_append, h10.all]
        have := chr_dig u
        unfold chr at this
        rw [List.all_cons, this]; rfl
      · rw [valD_app, h10.val]
        have := chr_nat u
        unfold chr at this
        rw [this]; omega
      · have := h10.hd (by omega)
        obtain ⟨a, r, e, _⟩ := h10.head
        rw [e] at this ⊢
        exact this
theorem dec_len : ∀ (m u : Nat), u < 10 ^ (m + 1) → (Lib.decDigits u).length ≤ m + 1
  | 0, u, h => by rw [Lib.decDigits_one (by omega)]; simp
  | m + 1, u, h => by
    by_cases h10 : u < 10
    · rw [Lib.decDigits_one h10]; simp
    · rw [Lib.decDigits, dif_neg h10, List.length_append]
      have := dec_len m (u / 10) (by rw [Nat.pow_succ] at h; omega)
      simp; omega
theorem itoa_nat {n : Int} (h : 0 ≤ n) : Lib.itoa n = Lib.decDigits n.toNat := by unfold Lib.itoa; rw [if_neg (by omega)]
theorem spec_itoa {n : Int} (h0 : 0 ≤ n) (h1 : n ≤ 5000) : specNum (Lib.itoa n) = (n, 0) := by
  have h := spec_text (k := n) (D := Lib.decDigits n.natAbs) (digs_dec _) (by omega)
  rw [if_neg (by omega)] at h
  rw [itoa_nat h0, show n.toNat = n.natAbs by omega]; exact h
theorem itoa_len {n : Int} (h0 : 0 ≤ n) (h1 : n ≤ 5000) : (Lib.itoa n).length ≤ 4 := by rw [itoa_nat h0]; exact dec_len 3 _ (by omega)
theorem dig_wch {b : UInt8} (h : dig b = true) : wch b = true := by
  unfold dig at h
  unfold wch
  simp only [Bool.and_eq_true, Nat.ble_eq] at h ⊢
  omega
theorem nch_wch {b : UInt8} (h : nch b = true) : wch b = true := by
  unfold nch fch at h
  unfold wch
  simp only [Bool.and_eq_true, Bool.or_eq_true, Nat.ble_eq, beq_iff_eq] at h ⊢
  rcases h with (h | h) | h
  · omega
  · omega
  · subst h; decide
theorem itoa_word {n : Int} (h0 : 0 ≤ n) : wordB (Lib.itoa n) = true := by
  rw [itoa_nat h0]
  have h := digs_dec n.toNat
  unfold wordB
  rw [Bool.and_eq_true, List.all_eq_true]
  refine ⟨fun b hb => dig_wch (List.all_eq_true.1 h.all b hb), ?_⟩
  obtain ⟨a, r, e, _⟩ := h.head
  rw [e]; rfl

/-! ### A product as a line -/
def wOf (p : Pro) : List Str := [cmdP, p.1, Lib.itoa p.2.1, Lib.itoa p.2.2.1, Lib.itoa p.2.2.2.1, Lib.itoa p.2.2.2.2]
structure ValP (p : Pro) : Prop where
  d : 400 ≤ p.2.1 ∧ p.2.1 ≤ 1200
  e : 0 ≤ p.2.2.1 ∧ p.2.2.1 ≤ 2000
  c : 0 ≤ p.2.2.2.1 ∧ p.2.2.2.1 ≤ 5000
  f : 1 ≤ p.2.2.2.2 ∧ p.2.2.2.2 ≤ 2000
  nm : nameB p.1 = true
theorem rgB_t {a b n : Int} (h : rgB a b n = true) : a ≤ n ∧ n ≤ b := by
  unfold rgB at h
  simp only [Bool.and_eq_true, Bool.not_eq_true', decide_eq_false_iff_not] at h
  omega
theorem valP {p : Pro} (h : validB p = true) : ValP p := by
  unfold validB okB at h
  simp only [Bool.and_eq_true] at h
  exact ⟨rgB_t h.1.1, rgB_t h.1.2.1, rgB_t h.1.2.2.1, rgB_t h.1.2.2.2, h.2⟩
theorem name_word {s : Str} (h : nameB s = true) : wordB s = true ∧ s.length ≤ 12 := by
  unfold nameB at h
  simp only [Bool.and_eq_true, Nat.ble_eq] at h
  refine ⟨?_, h.1.1.2⟩
  unfold wordB
  rw [Bool.and_eq_true, List.all_eq_true]
  refine ⟨fun b hb => nch_wch (List.all_eq_true.1 h.2 b hb), ?_⟩
  cases s with
  | nil => have := h.1.1.1; simp at this
  | cons => rfl
theorem wOf_proper {p : Pro} (h : validB p = true) : properB (wOf p) = true := by
  have v := valP h
  unfold properB
  have ha : (wOf p).all wordB = true := by
    unfold wOf
    simp only [List.all_cons, List.all_nil, Bool.and_true]
    rw [(name_word v.nm).1, itoa_word (by have := v.d.1; omega), itoa_word v.e.1, itoa_word v.c.1, itoa_word (by have := v.f.1; omega)]; rfl
  rw [ha]; rfl
theorem wOf_len {p : Pro} (h : validB p = true) : ∀ x ∈ wOf p, x.length ≤ 12 := by
  have v := valP h
  intro x hx
  unfold wOf at hx
  simp only [List.mem_cons, List.not_mem_nil, or_false] at hx
  rcases hx with rfl | rfl | rfl | rfl | rfl | rfl
  · simp
  · exact (name_word v.nm).2
  · have := itoa_len (n := p.2.1) (by have := v.d.1; omega) (by have := v.d.2; omega); omega
  · have := itoa_len (n := p.2.2.1) v.e.1 (by have := v.e.2; omega); omega
  · have := itoa_len (n := p.2.2.2.1) v.c.1 v.c.2; omega
  · have := itoa_len (n := p.2.2.2.2) (by have := v.f.1; omega) (by have := v.f.2; omega); omega
theorem read_wOf {p : Pro} (h : validB p = true) : readS (wOf p) = (p, 0) := by
  have v := valP h
  show (bif decide (cmdP = cmdP) then read6 p.1 (Lib.itoa p.2.1) (Lib.itoa p.2.2.1) (Lib.itoa p.2.2.2.1) (Lib.itoa p.2.2.2.2) else (P0, 3)) = _
  rw [dec_t rfl, cond_true]
  unfold read6 okN
  rw [spec_itoa (n := p.2.1) (by have := v.d.1; omega) (by have := v.d.2; omega), spec_itoa (n := p.2.2.1) v.e.1 (by have := v.e.2; omega), spec_itoa (n := p.2.2.2.1) v.c.1 v.c.2, spec_itoa (n := p.2.2.2.2) (by have := v.f.1; omega) (by have := v.f.2; omega)]
  show (bif validB p then ((p, 0) : Pro × Int) else (P0, 9)) = _
  rw [h]; rfl

/-! ### Format -/
theorem itoaT_t {n : Int} (h0 : 0 ≤ n) (h1 : n ≤ 5000) : itoaT n = some (Lib.itoa n) := by
  unfold itoaT
  rw [dec_t (by omega), dec_t (by omega)]; rfl
abbrev FmX := Int × List (List Str) × List Str
noncomputable def fmStep (q : Int × Int × Int × Int) (x : FmX) : Option (FmX ⊕ (List (List Str) × List Str)) := product_Format_L1 q x.1 x.2.1 x.2.2
theorem fm_loop {p : Pro} (h : validB p = true) (out : List (List Str)) (w : List Str) (hw : w.length ≤ 10) : iter (fmStep p.2) (0, out, w) = some (out, w ++ [Lib.itoa p.2.1, Lib.itoa p.2.2.1, Lib.itoa p.2.2.2.1, Lib.itoa p.2.2.2.2]) := by
  have v := valP h
  have e0 : ∀ w, fmStep p.2 (0, out, w) = (itoaT p.2.1).bind fun r => gd (fits (w.length + 1) 16) <| some (.inl (1, out, w ++ [r])) := fun _ => rfl
  have e1 : ∀ w, fmStep p.2 (1, out, w) = (itoaT p.2.2.1).bind fun r => gd (fits (w.length + 1) 16) <| some (.inl (2, out, w ++ [r])) := fun _ => rfl
  have e2 : ∀ w, fmStep p.2 (2, out, w) = (itoaT p.2.2.2.1).bind fun r => gd (fits (w.length + 1) 16) <| some (.inl (3, out, w ++ [r])) := fun _ => rfl
  have e3 : ∀ w, fmStep p.2 (3, out, w) = (itoaT p.2.2.2.2).bind fun r => gd (fits (w.length + 1) 16) <| some (.inl (4, out, w ++ [r])) := fun _ => rfl
  have e4 : ∀ w, fmStep p.2 (4, out, w) = some (.inr (out, w)) := fun _ => rfl
  have k0 := e0 w
  rw [itoaT_t (by have := v.d.1; omega) (by have := v.d.2; omega), Option.bind_some, gd_t (fits_t (by omega))] at k0
  rw [iter_inl k0]
  have k1 := e1 (w ++ [Lib.itoa p.2.1])
  rw [itoaT_t v.e.1 (by have := v.e.2; omega), Option.bind_some, gd_t (fits_t (by simp; omega))] at k1
  rw [iter_inl k1]
  have k2 := e2 ((w ++ [Lib.itoa p.2.1]) ++ [Lib.itoa p.2.2.1])
  rw [itoaT_t v.c.1 v.c.2, Option.bind_some, gd_t (fits_t (by simp; omega))] at k2
  rw [iter_inl k2]
  have k3 := e3 (((w ++ [Lib.itoa p.2.1]) ++ [Lib.itoa p.2.2.1]) ++ [Lib.itoa p.2.2.2.1])
  rw [itoaT_t (by have := v.f.1; omega) (by have := v.f.2; omega), Option.bind_some, gd_t (fits_t (by simp; omega))] at k3
  rw [iter_inl k3, iter_inr (e4 _)]
  simp
theorem fm_loop0 (l : List Pro) (hv : ∀ p ∈ l, validB p = true) (hl : l.length ≤ 1000) : iter (fun x2 : Int × List (List Str) => product_Format_L0 l x2.1 x2.2) (0, []) = some (l.map wOf) := by
  have h0 : ((0 : Int), ([] : List (List Str))) = (fun k : Nat => ((k : Int), (l.take k).map wOf)) 0 := rfl
  rw [h0]
  refine iter_for (step := fun x2 : Int × List (List Str) => product_Format_L0 l x2.1 x2.2) l.length (fun k : Nat => ((k : Int), (l.take k).map wOf)) (fun k hk => ?_) ?_
  · simp only
    unfold product_Format_L0
    rw [dec_t (show (k : Int) < (l.length : Int) by omega), cond_true, gd_t (inB_t hk), Int.toNat_natCast]
    show ((iter (fmStep (l.getD k P0).2) (0, (l.take k).map wOf, [cmdP, (l.getD k P0).1])).bind fun s => gd (fits (s.1.length + 1) 24) <| (some (.inl (wi64 ((k : Int) + 1), s.1 ++ [s.2])) : Option ((Int × List (List Str)) ⊕ List (List Str)))) = _
    rw [fm_loop (hv _ (gD_mem hk)) _ _ (by simp), Option.bind_some, gd_t (fits_t (by simp only [List.length_map, List.length_take]; omega)), w1 hk (by omega), take_next P0 hk, List.map_append]; rfl
  · simp only
    unfold product_Format_L0
    rw [dec_f (by omega), List.take_length]; rfl
theorem nodup_ne {l : List Pro} (h : (l.map (·.1)).Nodup) {i k : Nat} (hi : i < l.length) (hk : k < i) : (l.getD i P0).1 ≠ (l.getD k P0).1 := by
  intro e
  have hp := List.pairwise_iff_getElem.1 h k i (by simp; omega) (by simp; omega) hk
  rw [List.getElem_map, List.getElem_map, ← gD_eq (d := P0) (by omega), ← gD_eq (d := P0) (by omega)] at hp
  exact hp e.symm
theorem nodup_dif {l : List Pro} (h : (l.map (·.1)).Nodup) (i : Nat) (hi : i < l.length) : difB l i = true := by
  unfold difB
  rw [all_range]
  intro k hk
  unfold nmD
  rw [dec_f (nodup_ne h hi hk)]; rfl
theorem nodup_fnd {l : List Pro} (h : (l.map (·.1)).Nodup) (i : Nat) (hi : i < l.length) : fnd l (l.getD i P0).1 = i := by
  have := fnd_dif l i hi
  rw [nodup_dif h i hi, Nat.beq_eq] at this
  exact this
theorem chk_zero {l : List Pro} (hv : ∀ p ∈ l, validB p = true) (h : (l.map (·.1)).Nodup) (hl : l.length ≤ 16) : chkB l = 0 := by
  unfold chkB
  rw [show Nat.blt 16 l.length = false by rw [Bool.eq_false_iff, ne_eq, Nat.blt_eq]; omega, List.all_eq_true.2 hv, show (List.range l.length).all (fun i => Nat.beq (fnd l (l.getD i P0).1) i) = true from all_range.2 fun i hi => by rw [nodup_fnd h i hi, Nat.beq_eq]]; rfl
theorem wOfs_txt {l : List Pro} (hv : ∀ p ∈ l, validB p = true) : (txt (l.map wOf)).length ≤ l.length * 79 := by
  have h1 := szL_le (a := l.map wOf) (n := 78) fun w hw => by
    obtain ⟨p, hp, rfl⟩ := List.mem_map.1 hw
    have := sumL_le (wOf_len (hv p hp))
    have h6 : (wOf p).length = 6 := rfl
    rw [h6] at this
    unfold szW; omega
  have h2 := (txt_len (l.map wOf)).2
  rw [List.length_map] at h1 h2
  omega
theorem wOfs_proper {l : List Pro} (hv : ∀ p ∈ l, validB p = true) : ∀ w ∈ l.map wOf, properB w = true := by
  intro w hw
  obtain ⟨p, hp, rfl⟩ := List.mem_map.1 hw
  exact wOf_proper (hv p hp)
theorem wOfs_sz {l : List Pro} (hv : ∀ p ∈ l, validB p = true) : ∀ w ∈ l.map wOf, ∀ x ∈ w, x.length ≤ 1000000 := by
  intro w hw x hx
  obtain ⟨p, hp, rfl⟩ := List.mem_map.1 hw
  have := wOf_len (hv p hp) x hx
  omega
theorem format_eq {l : List Pro} (hv : ∀ p ∈ l, validB p = true) (h : (l.map (·.1)).Nodup) (hl : l.length ≤ 16) : product_Format l = some (txt (l.map wOf), 0) := by
  unfold product_Format
  rw [check_eq l (fun p hp => by have := (name_word (valP (hv p hp)).nm).2; omega) (by omega), chk_zero hv h hl, Option.bind_some, dec_t rfl]
  simp only [Bool.not_true, cond_false]
  rw [fm_loop0 l hv (by omega), Option.bind_some]
  have hbj : BJ (l.map wOf) := fun w hw => by
    refine ⟨?_, wOfs_sz hv w hw⟩
    obtain ⟨p, hp, rfl⟩ := List.mem_map.1 hw
    show 6 ≤ 1000000
    omega
  have ht := wOfs_txt hv
  rw [ljoin_eq _ hbj, join_txt (wOfs_proper hv) (by rw [List.length_map]; omega) (by omega)]; rfl

/-! ### What was formatted is parsed -/
theorem fnd_none {l : List Pro} {x : Str} (h : x ∉ l.map (·.1)) : fnd l x = l.length := by
  unfold fnd
  rcases Nat.lt_or_ge (l.findIdx fun p : Pro => decide (p.1 = x)) l.length with hlt | hge
  · exfalso
    have h2 := List.findIdx_getElem (p := fun p : Pro => decide (p.1 = x)) (xs := l) (w := hlt)
    exact h (List.mem_map.2 ⟨_, List.getElem_mem hlt, of_decide_eq_true h2⟩)
  · have := List.findIdx_le_length (p := fun p : Pro => decide (p.1 = x)) (xs := l)
    omega
theorem fnd_some {l : List Pro} {x : Str} (h : x ∈ l.map (·.1)) : fnd l x < l.length := by
  obtain ⟨p, hp, rfl⟩ := List.mem_map.1 h
  obtain ⟨k, hk, rfl⟩ := mem_gD P0 hp
  exact Nat.lt_of_le_of_lt (fnd_le l k hk) hk
theorem step_wOf {p : Pro} (hv : validB p = true) {out : List Pro} (hn : p.1 ∉ out.map (·.1)) (hl : out.length < 16) : stepP out (wOf p) = .inl (out ++ [p]) := by
  unfold stepP
  rw [read_wOf hv, show (wOf p).isEmpty = false from rfl]
  simp only [cond_false, decide_true, Bool.not_true]
  rw [fnd_none hn, show Nat.blt out.length out.length = false by rw [Bool.eq_false_iff, ne_eq, Nat.blt_eq]; omega, show Nat.beq out.length 16 = false by rw [Bool.eq_false_iff, ne_eq, Nat.beq_eq]; omega]; rfl
theorem parse_all (X : List (List Str)) : ∀ (l : List Pro) (i : Nat) (out : List Pro), (∀ p ∈ l, validB p = true) → ((out ++ l).map (·.1)).Nodup → out.length + l.length ≤ 16 → parseE i out (l.map wOf ++ X) = parseE (i + l.length) (out ++ l) X
  | [], i, out, _, _, _ => by simp
  | p :: r, i, out, hv, hn, hl => by
    have h1 : p.1 ∉ out.map (·.1) := by
      rw [List.map_append, List.map_cons, List.nodup_append] at hn
      intro hm
      exact hn.2.2 _ hm _ (by simp) rfl
    rw [List.length_cons] at hl
    have hs := step_wOf (hv p (by simp)) h1 (by omega)
    have ih := parse_all X r (i + 1) (out ++ [p]) (fun q hq => hv q (List.mem_cons_of_mem _ hq)) (by simpa using hn) (by simp; omega)
    have e : parseE i out ((p :: r).map wOf ++ X) = match stepP out (wOf p) with | .inl o => parseE (i + 1) o (r.map wOf ++ X) | .inr e => .inr ([], ((i + 1 : Nat) : Int), e) := rfl
    rw [e, hs]
    simp only
    rw [ih]
    simp only [List.append_assoc, List.singleton_append, List.length_cons]
    rw [show i + 1 + r.length = i + (r.length + 1) by omega]
theorem split_gen {t : Str} {ls : List (List Str)} (h1 : t.length ≤ 16384) (h2 : (lns t).length ≤ 400) (h3 : linesM (lns t) = some ls) : specSplit t = (ls, 0) := by
  unfold specSplit
  rw [show Nat.blt 16384 t.length = false by rw [Bool.eq_false_iff, ne_eq, Nat.blt_eq]; omega, show Nat.blt 400 (lns t).length = false by rw [Bool.eq_false_iff, ne_eq, Nat.blt_eq]; omega, h3]; rfl
/-- A text of a table, and what comes behind it. -/
theorem parse_txt {l : List Pro} (hv : ∀ p ∈ l, validB p = true) (hl : l.length ≤ 16) {X : Str} {LX : List (List Str)} (hX : X.length ≤ 1000) (hm : linesM (lns X) = some LX) (hln : (lns X).length ≤ 300) (hb : ∀ w ∈ LX, ∀ x ∈ w, x.length ≤ 1000000) (hLX : LX.length ≤ 300) :
    product_Parse (txt (l.map wOf) ++ X) = some (endP (parseE 0 [] (l.map wOf ++ LX))) := by
  have ht := wOfs_txt hv
  have hlen : (txt (l.map wOf) ++ X).length ≤ 16384 := by rw [List.length_append]; omega
  have e1 := lns_txt X (wOfs_proper hv)
  refine parse_eq (by omega) (split_gen hlen (by rw [e1, List.length_append, List.length_map, List.length_map]; omega) (by rw [e1, linesM_app _ (wOfs_proper hv), hm]; rfl)) (by rw [List.length_append, List.length_map]; omega) (fun w hw => ?_)
  rcases List.mem_append.1 hw with hw | hw
  · exact wOfs_sz hv w hw
  · exact hb w hw
theorem same_refl (a : List Pro) (h : a.length ≤ 1000000) : ref04_Same a a = some true := by
  unfold ref04_Same
  rw [dec_t rfl]
  have hs : iter (fun x => ref04_Same_L0 a a x) 0 = some (bif a.all (fun _ => true) then .inl () else .inr false) := by
    refine scan a P0 (fun _ => true) (fun i hi _ => ?_) (fun i hi hq => by cases hq) ?_
    · unfold ref04_Same_L0
      rw [dec_t (show (i : Int) < (a.length : Int) by omega), cond_true, gd_t (inB_t hi), gd_t (inB_t hi), w1 hi (by omega)]
      simp
    · unfold ref04_Same_L0
      rw [dec_f (by omega)]; rfl
  simp only [Bool.not_true, cond_false]
  rw [hs, Option.bind_some, allT]; rfl
end Go.Proofs.YtihbfecdccamoaaGreatDoor
