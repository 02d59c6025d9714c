/- The laws ProductBack, ProductLines and ProductParts, in plain Lean. No condition. -/
import Derived.Test.YtihbfecdccamoaaDoorPr8
namespace Go.Proofs.YtihbfecdccamoaaDoor
open Go Go.Sq
set_option linter.unusedVariables false

theorem good_valid {a : List Pro} (h : GoodL a) : ∀ p ∈ a, validB p = true := by
  intro p hp
  obtain ⟨k, hk, rfl⟩ := mem_gD P0 hp
  exact goodP_valid (by have := h.n4; omega) (h.p k hk)
theorem nm_inj {i j : Nat} (hi : i < 4) (hj : j < 4) (h : UInt8.ofNat (97 + i) = UInt8.ofNat (97 + j)) : i = j := by
  have := congrArg UInt8.toNat h
  rw [UInt8.toNat_ofNat', UInt8.toNat_ofNat'] at this
  omega
theorem good_nodup {a : List Pro} (h : GoodL a) : (a.map (·.1)).Nodup := by
  refine List.pairwise_iff_getElem.2 fun i j hi hj hij => ?_
  have hi' : i < a.length := by simpa using hi
  have hj' : j < a.length := by simpa using hj
  rw [List.getElem_map, List.getElem_map, ← gD_eq (d := P0) hi', ← gD_eq (d := P0) hj', (h.p i hi').nm, (h.p j hj').nm]
  intro e
  injection e with _ e
  injection e with e _
  have := nm_inj (by have := h.n4; omega) (by have := h.n4; omega) e
  omega
theorem good_mk {l : List Int} (hl : ∀ x ∈ l, i64P x) : ∃ s p a, keep_New l = some (s, 0) ∧ keep_Src_Products s 0 = some (s, p, a) ∧ GoodL a := by
  obtain ⟨s, e, hs⟩ := new_eq hl
  obtain ⟨⟨s', p, a⟩, e2, g1, g2, g3⟩ := prods_ok hs
  simp only at g1 g2 g3
  subst g1
  exact ⟨s', p, a, e, e2, g3⟩
theorem good_head {a : List Pro} (h : GoodL a) : ([112, 97] : Str) ∈ a.map (·.1) := by
  have h0 := h.n0
  refine List.mem_map.2 ⟨a.getD 0 P0, gD_mem (by omega), ?_⟩
  rw [(h.p 0 (by omega)).nm]; rfl
theorem good_name {a : List Pro} (h : GoodL a) {x : Str} (hx : x ∈ a.map (·.1)) : ∃ k, k < 4 ∧ x = [112, UInt8.ofNat (97 + k)] := by
  obtain ⟨p, hp, rfl⟩ := List.mem_map.1 hx
  obtain ⟨k, hk, rfl⟩ := mem_gD P0 hp
  exact ⟨k, by have := h.n4; omega, (h.p k hk).nm⟩

/-! ### ProductBack -/
theorem parse_back {a : List Pro} (h : GoodL a) : product_Parse ([35, 32, 116, 97, 98, 108, 101, 10, 10] ++ txt (a.map wOf)) = some (a, 0, 0) := by
  have hv := good_valid h
  have n4 := h.n4
  have ht := wOfs_txt hv
  have hlen : ([35, 32, 116, 97, 98, 108, 101, 10, 10] ++ txt (a.map wOf)).length ≤ 16384 := by rw [List.length_append]; simp; omega
  have e1 := lns_txt [] (wOfs_proper hv)
  rw [List.append_nil, show lns [] = [] from rfl, List.append_nil] at e1
  have e2 : lns ([35, 32, 116, 97, 98, 108, 101, 10, 10] ++ txt (a.map wOf)) = [35, 32, 116, 97, 98, 108, 101] :: [] :: (a.map wOf).map joinS := by
    have q1 := lns_app (10 :: txt (a.map wOf)) (X := [35, 32, 116, 97, 98, 108, 101]) (by decide)
    have q2 := lns_app (txt (a.map wOf)) (X := []) (by simp)
    rw [List.nil_append, e1] at q2
    rw [q2] at q1
    exact q1
  have m1 := linesM_app [] (wOfs_proper hv)
  rw [List.append_nil] at m1
  have m2 : linesM ([35, 32, 116, 97, 98, 108, 101] :: [] :: (a.map wOf).map joinS) = some ([] :: [] :: a.map wOf) := by
    rw [linesM_cons, linesM_cons, m1]
    show ((Option.map (fun x => [] :: x) (Option.map (fun x => [] :: x) (some (a.map wOf ++ []))))) = _
    rw [List.append_nil]; rfl
  rw [parse_eq (by omega) (split_gen hlen (by rw [e2]; simp; omega) (by rw [e2]; exact m2)) (by simp; omega) (fun w hw x hx => by
    rcases List.mem_cons.1 hw with rfl | hw
    · cases hx
    · rcases List.mem_cons.1 hw with rfl | hw
      · cases hx
      · exact wOfs_sz hv w hw x hx)]
  have hp := parse_all [] a 2 [] hv (by simpa using good_nodup h) (by simp; omega)
  rw [List.append_nil, List.nil_append] at hp
  have e : parseE 0 [] ([] :: [] :: a.map wOf) = parseE 2 [] (a.map wOf) := rfl
  rw [e, hp]; rfl
theorem back_loop {a : List Pro} (h : GoodL a) : iter (fun x : Int × List Pro => law04_ProductBack_L0 (false, a) x.1 x.2) (0, a) = some (.inl a) := by
  have n4 := h.n4
  have h0 : ((0 : Int), a) = (fun k : Nat => ((k : Int), a)) 0 := rfl
  rw [h0]
  refine iter_for (step := fun x : Int × List Pro => law04_ProductBack_L0 (false, a) x.1 x.2) a.length (fun k : Nat => ((k : Int), a)) (fun k hk => ?_) ?_
  · simp only
    unfold law04_ProductBack_L0
    rw [dec_t (show (k : Int) < (a.length : Int) by omega), cond_true, gd_t (inB_t hk), Int.toNat_natCast]
    show ((product_Find a (a.getD k P0).1).bind _) = _
    rw [find_eq _ _ (by omega), Option.bind_some]
    unfold fndI
    rw [nodup_fnd (good_nodup h) k hk, if_pos hk, dec_t rfl, w1 hk (by omega)]; rfl
  · simp only
    unfold law04_ProductBack_L0
    rw [dec_f (by dsimp only; omega)]; rfl
theorem back_true {l : List Int} (hl : ∀ x ∈ l, i64P x) : law04_ProductBack l = some true := by
  obtain ⟨s, p, a, e1, e2, h⟩ := good_mk hl
  have n4 := h.n4
  have hv := good_valid h
  have ht := wOfs_txt hv
  unfold law04_ProductBack
  rw [e1, Option.bind_some, e2, Option.bind_some]
  simp only
  rw [format_eq hv (good_nodup h) (by omega), Option.bind_some]
  simp only
  rw [gd_t (Nat.ble_eq_true_of_le (by simp; omega)), parse_back h, Option.bind_some]
  simp only [decide_true, Bool.not_true, cond_false]
  rw [same_refl a (by omega), Option.bind_some, Option.bind_some]
  simp only [Bool.not_true, cond_false]
  rw [back_loop h, Option.bind_some]
  simp only [Sum.elim_inl]
  have hn : ([110, 111, 110, 101] : Str) ∉ a.map (·.1) := by
    intro hm
    obtain ⟨k, _, e⟩ := good_name h hm
    cases e
  rw [find_eq _ _ (by omega), Option.bind_some]
  unfold fndI
  rw [fnd_none hn, if_neg (by omega), dec_t rfl, awake_true]; rfl

/-! ### ProductLines -/
theorem parse_stop {a : List Pro} (h : GoodL a) {bad : Str} {wb : List Str} {e : Int} (hlen : bad.length ≤ 100) (hm : linesM (lns (bad ++ [10, 112, 114, 111, 100, 117, 99, 116])) = some [wb, [cmdP]])
    (hln : (lns (bad ++ [10, 112, 114, 111, 100, 117, 99, 116])).length ≤ 300) (hb : ∀ x ∈ wb, x.length ≤ 1000000) (hs : stepP a wb = .inr e) :
    product_Parse ((txt (a.map wOf) ++ bad) ++ [10, 112, 114, 111, 100, 117, 99, 116]) = some ([], ((a.length + 1 : Nat) : Int), e) := by
  have hv := good_valid h
  have n4 := h.n4
  rw [List.append_assoc, parse_txt hv (by omega) (by rw [List.length_append]; simp; omega) hm hln (fun w hw x hx => by
    simp only [List.mem_cons, List.not_mem_nil, or_false] at hw
    rcases hw with rfl | rfl
    · exact hb x hx
    · simp only [List.mem_cons, List.not_mem_nil, or_false] at hx
      subst hx; simp) (by simp)]
  rw [parse_all _ a 0 [] hv (by simpa using good_nodup h) (by simp; omega), Nat.zero_add, List.nil_append]
  have e1 : parseE a.length a [wb, [cmdP]] = match stepP a wb with | .inl o => parseE (a.length + 1) o [[cmdP]] | .inr e => .inr ([], ((a.length + 1 : Nat) : Int), e) := rfl
  rw [e1, hs]; rfl
theorem step_err {a : List Pro} {w : List Str} {e : Int} (hw : w.isEmpty = false) (h : readS w = (P0, e)) (he : e ≠ 0) : stepP a w = .inr e := by
  unfold stepP
  rw [h, hw]
  simp only [cond_false]
  rw [dec_f he]; rfl
theorem step_twice {a : List Pro} {w : List Str} {p : Pro} (hw : w.isEmpty = false) (h : readS w = (p, 0)) (hm : p.1 ∈ a.map (·.1)) : stepP a w = .inr 7 := by
  unfold stepP
  rw [h, hw]
  simp only [cond_false, decide_true, Bool.not_true]
  rw [show Nat.blt (fnd a p.1) a.length = true by rw [Nat.blt_eq]; exact fnd_some hm]; rfl
theorem lines_true {l : List Int} (hl : ∀ x ∈ l, i64P x) (v : Int) (hv : 0 ≤ v ∧ v < 256) : law04_ProductLines l v = some true := by
  obtain ⟨s, p, a, e1, e2, h⟩ := good_mk hl
  have n4 := h.n4
  have hval := good_valid h
  have ht := wOfs_txt hval
  have hk : Int.tmod (wi64 v) 4 = v % 4 := by rw [wi (by omega), Int.tmod_eq_emod_of_nonneg hv.1]
  unfold law04_ProductLines
  rw [e1, Option.bind_some, e2, Option.bind_some, hk]
  simp only
  rw [format_eq hval (good_nodup h) (by omega), Option.bind_some]
  simp only
  have hw : wi64 ((a.length : Int) + 1) = ((a.length + 1 : Nat) : Int) := by rw [wi (by omega)]; omega
  rw [hw]
  have fin : ∀ (bad : Str) (wb : List Str) (e : Int), bad.length ≤ 100 → linesM (lns (bad ++ [10, 112, 114, 111, 100, 117, 99, 116])) = some [wb, [cmdP]] → (lns (bad ++ [10, 112, 114, 111, 100, 117, 99, 116])).length ≤ 300 → (∀ x ∈ wb, x.length ≤ 1000000) → stepP a wb = .inr e →
      (gd (Nat.ble ((txt (a.map wOf)).length + bad.length) 9223372036854775807) <| gd (Nat.ble ((txt (a.map wOf) ++ bad).length + [10, 112, 114, 111, 100, 117, 99, 116].length) 9223372036854775807) <|
        (product_Parse ((txt (a.map wOf) ++ bad) ++ [10, 112, 114, 111, 100, 117, 99, 116])).bind fun r4 =>
          bif decide ((0 : Int) = 0) then (bif decide ((r4.1.length : Int) = 0) then (bif decide (r4.2.1 = ((a.length + 1 : Nat) : Int)) then (bif decide (r4.2.2 = e) then ((law04_awake).bind fun r5 => some r5) else some false) else some false) else some false) else some false) = some true := by
    intro bad wb e h1 h2 h3 h4 h5
    rw [gd_t (Nat.ble_eq_true_of_le (by omega)), gd_t (Nat.ble_eq_true_of_le (by rw [List.length_append]; simp; omega)), parse_stop h h1 h2 h3 h4 h5, Option.bind_some, awake_true]
    simp
  have h4 : v % 4 = 0 ∨ v % 4 = 1 ∨ v % 4 = 2 ∨ v % 4 = 3 := by omega
  rcases h4 with h4 | h4 | h4 | h4 <;> rw [h4]
  · exact fin [112, 114, 111, 100, 117, 99, 116, 32, 120, 32, 52, 48, 48, 32, 48, 32, 48] [cmdP, [120], [52, 48, 48], [48], [48]] 3 (by decide) (by kernel_rfl) (by decide) (by decide) (step_err rfl (by kernel_rfl) (by decide))
  · exact fin [112, 114, 111, 100, 117, 99, 116, 32, 88, 32, 52, 48, 48, 32, 48, 32, 48, 32, 49] [cmdP, [88], [52, 48, 48], [48], [48], [49]] 9 (by decide) (by kernel_rfl) (by decide) (by decide) (step_err rfl (by kernel_rfl) (by decide))
  · exact fin [112, 114, 111, 100, 117, 99, 116, 32, 112, 97, 32, 52, 48, 48, 32, 48, 32, 48, 32, 49] [cmdP, [112, 97], [52, 48, 48], [48], [48], [49]] 7 (by decide) (by kernel_rfl) (by decide) (by decide) (step_twice (p := ([112, 97], (400, (0, (0, 1))))) rfl (by kernel_rfl) (good_head h))
  · exact fin [112, 114, 111, 100, 117, 99, 116, 32, 120, 32, 52, 48, 48, 32, 48, 32, 48, 32, 50, 48, 48, 49] [cmdP, [120], [52, 48, 48], [48], [48], [50, 48, 48, 49]] 9 (by decide) (by kernel_rfl) (by decide) (by decide) (step_err rfl (by kernel_rfl) (by decide))

/-! ### ProductParts -/
def xP (p : Pro) : Pro := (120 :: p.1, p.2)
theorem xP_valid {k : Nat} (hk : k < 4) {p : Pro} (h : GoodP k p) : validB (xP p) = true := by
  have hv := goodP_valid hk h
  unfold validB at hv ⊢
  rw [Bool.and_eq_true] at hv
  have hn : nameB (120 :: p.1) = true := by
    rw [h.nm]
    match k, hk with
    | 0, _ => rfl
    | 1, _ => rfl
    | 2, _ => rfl
    | 3, _ => rfl
  show (okB p.2 && nameB (120 :: p.1)) = true
  rw [hv.1, hn]; rfl
theorem parts_loop {a : List Pro} (h : GoodL a) (s : List Int) (p : Int) : iter (fun x : Int × List Pro × List Pro => law04_ProductParts_L0 (s, p, a) x.1 x.2.1 x.2.2) (0, a, a) = some (a, a.map xP) := by
  have n4 := h.n4
  have h0 : ((0 : Int), a, a) = (fun k : Nat => ((k : Int), a, mix (a.map xP) a k)) 0 := by simp only [mix_0]; rfl
  rw [h0]
  refine iter_for (step := fun x : Int × List Pro × List Pro => law04_ProductParts_L0 (s, p, a) x.1 x.2.1 x.2.2) a.length (fun k : Nat => ((k : Int), a, mix (a.map xP) a k)) (fun k hk => ?_) ?_
  · simp only
    unfold law04_ProductParts_L0
    have hml : (mix (a.map xP) a k).length = a.length := mix_len (by simp) rfl
    have hg : (mix (a.map xP) a k).getD k P0 = a.getD k P0 := by rw [gD_mix (n := a.length) (by simp) rfl, if_neg (by omega)]
    rw [dec_t (show (k : Int) < ((([] : List Pro) ++ a).length : Int) by rw [List.nil_append]; omega), cond_true, gd_t (inB_t (by omega)), Int.toNat_natCast]
    show (gd (Nat.ble (1 + ((mix (a.map xP) a k).getD k P0).1.length) 9223372036854775807) (gd (inB (k : Int) (mix (a.map xP) a k).length) (some (.inl (wi64 ((k : Int) + 1), a, (mix (a.map xP) a k).set k (xP ((mix (a.map xP) a k).getD k P0)))) : Option ((Int × List Pro × List Pro) ⊕ (List Pro × List Pro))))) = _
    rw [hg, gd_t (Nat.ble_eq_true_of_le (by rw [(h.p k hk).nm]; simp)), gd_t (inB_t (by omega)), w1 hk (by omega), set_mix (n := a.length) (by simp) rfl P0 hk (by rw [gD_map xP a k P0 P0 hk])]
  · simp only
    unfold law04_ProductParts_L0
    rw [dec_f (by simp only [List.nil_append]; omega), mix_n (n := a.length) (by simp) rfl]; rfl
theorem nodup_both {a : List Pro} (h : GoodL a) : ((a ++ a.map xP).map (·.1)).Nodup := by
  rw [List.map_append, List.nodup_append]
  refine ⟨good_nodup h, ?_, ?_⟩
  · have e : (a.map xP).map (·.1) = (a.map (·.1)).map (120 :: ·) := by rw [List.map_map, List.map_map]; rfl
    rw [e]
    refine List.Pairwise.map _ (fun x y hxy e => hxy ?_) (good_nodup h)
    injection e
  · intro x hx y hy e
    subst e
    obtain ⟨k, hk, rfl⟩ := good_name h hx
    obtain ⟨q, hq, e⟩ := List.mem_map.1 hy
    obtain ⟨q', _, rfl⟩ := List.mem_map.1 hq
    have : (120 : UInt8) = 112 := by injection e
    cases this
theorem parts_true {l : List Int} (hl : ∀ x ∈ l, i64P x) : law04_ProductParts l = some true := by
  obtain ⟨s, p, a, e1, e2, h⟩ := good_mk hl
  have n0 := h.n0
  have n4 := h.n4
  have hv := good_valid h
  have hxv : ∀ q ∈ a.map xP, validB q = true := by
    intro q hq
    obtain ⟨q', hq', rfl⟩ := List.mem_map.1 hq
    obtain ⟨k, hk, rfl⟩ := mem_gD P0 hq'
    exact xP_valid (by omega) (h.p k hk)
  have hnb := nodup_both h
  have hxn : ((a.map xP).map (·.1)).Nodup := by
    rw [List.map_append, List.nodup_append] at hnb
    exact hnb.2.1
  have ht := wOfs_txt hv
  have htx := wOfs_txt hxv
  rw [List.length_map] at htx
  have hvb : ∀ q ∈ a ++ a.map xP, validB q = true := fun q hq => (List.mem_append.1 hq).elim (hv q) (hxv q)
  have hlb : (a ++ a.map xP).length = 2 * a.length := by rw [List.length_append, List.length_map]; omega
  have eb : txt ((a ++ a.map xP).map wOf) = txt (a.map wOf) ++ txt ((a.map xP).map wOf) := by rw [List.map_append, txt_app]
  have p1 : product_Parse (txt (a.map wOf) ++ txt ((a.map xP).map wOf)) = some (a ++ a.map xP, 0, 0) := by
    have := parse_txt hvb (by omega) (X := []) (LX := []) (by simp) rfl (by decide) (by simp) (by simp)
    rw [List.append_nil, List.append_nil, eb] at this
    rw [this]
    have hp := parse_all [] (a ++ a.map xP) 0 [] hvb (by simpa using hnb) (by simp; omega)
    rw [List.append_nil, List.nil_append] at hp
    rw [hp]; rfl
  have p2 : product_Parse ((txt (a.map wOf) ++ txt ((a.map xP).map wOf)) ++ txt (a.map wOf)) = some ([], ((2 * a.length + 1 : Nat) : Int), 7) := by
    obtain ⟨q, r, hqr⟩ : ∃ q r, a = q :: r := by cases a with | nil => simp at n0 | cons q r => exact ⟨q, r, rfl⟩
    have hlx := lns_txt [] (wOfs_proper hv)
    rw [List.append_nil, show lns [] = [] from rfl, List.append_nil] at hlx
    have hmx := linesM_app [] (wOfs_proper hv)
    rw [List.append_nil] at hmx
    have := parse_txt hvb (by omega) (X := txt (a.map wOf)) (LX := a.map wOf) (by omega) (by rw [hlx, hmx]; show some (a.map wOf ++ []) = _; rw [List.append_nil]) (by rw [hlx]; simp; omega) (wOfs_sz hv) (by simp; omega)
    rw [eb] at this
    rw [this, parse_all _ (a ++ a.map xP) 0 [] hvb (by simpa using hnb) (by simp; omega), Nat.zero_add, List.nil_append, hlb]
    have e3 : a.map wOf = wOf q :: r.map wOf := by rw [hqr]; rfl
    rw [e3]
    have e4 : ∀ (n : Nat) (A : List Pro), parseE n A (wOf q :: r.map wOf) = match stepP A (wOf q) with | .inl o => parseE (n + 1) o (r.map wOf) | .inr e => .inr ([], ((n + 1 : Nat) : Int), e) := fun _ _ => rfl
    rw [e4, step_twice (p := q) rfl (read_wOf (hv q (by rw [hqr]; simp))) (by rw [hqr]; simp)]; rfl
  unfold law04_ProductParts
  rw [e1, Option.bind_some, e2, Option.bind_some]
  simp only [List.nil_append]
  rw [gd_t (fits_t (by omega)), parts_loop h s p, Option.bind_some]
  simp only
  rw [format_eq hv (good_nodup h) (by omega), Option.bind_some, format_eq hxv hxn (by rw [List.length_map]; omega), Option.bind_some]
  simp only
  rw [gd_t (Nat.ble_eq_true_of_le (by omega)), p1, Option.bind_some, gd_t (Nat.ble_eq_true_of_le (by omega)), gd_t (Nat.ble_eq_true_of_le (by rw [List.length_append]; omega)), p2, Option.bind_some]
  simp only [decide_true, cond_true]
  rw [gd_t (fits_t (by omega)), gd_t (fits_t (by rw [List.length_map]; omega)), same_refl _ (by omega), Option.bind_some, cond_true]
  have hw : wi64 ((wi64 (2 * (a.length : Int))) + 1) = ((2 * a.length + 1 : Nat) : Int) := by rw [wi (n := 2 * (a.length : Int)) (by omega), wi (by omega)]; omega
  rw [hw, dec_t rfl, awake_true]; rfl
end Go.Proofs.YtihbfecdccamoaaDoor
