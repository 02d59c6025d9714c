/- The laws NominationBack and NominationLines, in plain Lean. No condition. -/
import Derived.Test.YtnilkkggnffklaaDoorNm4
namespace Go.Proofs.YtnilkkggnffklaaDoor
open Go Go.Sq
set_option linter.unusedVariables false

theorem parse_lines {t : Str} {ls : List (List Str)} (ht : t.length ≤ 16384) (hl : (lns t).length ≤ 400) (hm : linesM (lns t) = some ls) : nomination_Parse t = some ((parseE 0 [] ls).elim (fun o => (o, 0, 0)) (fun e => e)) := by
  rw [parseT_eq t (by omega)]
  unfold parseT
  rw [split_gen ht hl hm]; rfl
theorem back_true {l : List Int} (hl : ∀ x ∈ l, i64P x) : law11_NominationBack l = some true := by
  obtain ⟨s, p, a, e1, e2, h, _⟩ := made0 hl
  have hn := h.n
  have hv := h.valid
  have ht := wOfs_txt hv
  unfold law11_NominationBack
  rw [e1, Option.bind_some, e2, Option.bind_some]
  simp only
  rw [made_fmt h, Option.bind_some]
  simp only
  have e3 := lns_txt [] (wOfs_proper hv)
  rw [List.append_nil, show lns [] = [] from rfl, List.append_nil] at e3
  have e4 : lns ([35, 32, 99, 121, 99, 108, 101, 10] ++ txt (a.map wOf)) = [35, 32, 99, 121, 99, 108, 101] :: (a.map wOf).map joinS := by
    have q1 := lns_app (txt (a.map wOf)) (X := [35, 32, 99, 121, 99, 108, 101]) (by decide)
    rw [e3] at q1
    exact q1
  have m1 := linesM_app [] (wOfs_proper hv)
  rw [List.append_nil] at m1
  have m2 : linesM ([35, 32, 99, 121, 99, 108, 101] :: (a.map wOf).map joinS) = some ([] :: a.map wOf) := by
    rw [linesM_cons, m1]
    show (Option.map (fun x => [] :: x) (some (a.map wOf ++ []))) = _
    rw [List.append_nil]; rfl
  have hp := parse_all [] a 1 [] hv
  rw [List.append_nil, List.nil_append] at hp
  have e5 : parseE 0 [] ([] :: a.map wOf) = parseE 1 [] (a.map wOf) := rfl
  rw [gd_t (Nat.ble_eq_true_of_le (by simp; omega)), parse_lines (by rw [List.length_append]; simp; omega) (by rw [e4]; simp; omega) (by rw [e4]; exact m2), e5, hp, Option.bind_some]
  show (bif decide ((0 : Int) = 0) then (bif decide ((0 : Int) = 0) then (bif decide ((0 : Int) = 0) then (ref11_Same a a).bind fun r5 => bif r5 then (law11_awake).bind fun r6 => some r6 else some false else some false) else some false) else some false) = _
  rw [same_refl a (by omega), awake_true]; rfl

theorem parse_stop {a : List Nom} (h : MadeN a) {bad : Str} {wb : List Str} {e : Int} (hlen : bad.length ≤ 100) (hm : linesM (lns (bad ++ [10, 110, 111, 109, 105, 110, 97, 116, 101])) = some [wb, [cmdN]])
    (hln : (lns (bad ++ [10, 110, 111, 109, 105, 110, 97, 116, 101])).length ≤ 300) (hw : wb.isEmpty = false) (hs : (readN wb).2 = e) (he : e ≠ 0) :
    nomination_Parse ((txt (a.map wOf) ++ bad) ++ [10, 110, 111, 109, 105, 110, 97, 116, 101]) = some ([], ((a.length + 1 : Nat) : Int), e) := by
  have hv := h.valid
  have hn := h.n
  have ht := wOfs_txt hv
  have e1 := lns_txt (bad ++ [10, 110, 111, 109, 105, 110, 97, 116, 101]) (wOfs_proper hv)
  rw [List.append_assoc, parse_lines (ls := a.map wOf ++ [wb, [cmdN]]) (by simp only [List.length_append, List.length_cons, List.length_nil]; omega) (by rw [e1, List.length_append, List.length_map, List.length_map]; omega) (by rw [e1, linesM_app _ (wOfs_proper hv), hm]; rfl), parse_all _ a 0 [] hv, Nat.zero_add, List.nil_append]
  have e2 : parseE a.length a [wb, [cmdN]] = match stepN a wb with | .inl o => parseE (a.length + 1) o [[cmdN]] | .inr e => .inr ([], ((a.length + 1 : Nat) : Int), e) := rfl
  have e3 : stepN a wb = .inr e := by
    unfold stepN
    rw [hw, hs]
    simp only [cond_false]
    rw [dec_f he]; rfl
  rw [e2, e3]; rfl
theorem lines_true {l : List Int} (hl : ∀ x ∈ l, i64P x) (v : Int) (hv : 0 ≤ v ∧ v < 256) : law11_NominationLines l v = some true := by
  obtain ⟨s, p, a, e1, e2, h, _⟩ := made0 hl
  have hn := h.n
  have hval := h.valid
  have ht := wOfs_txt hval
  have hk : Int.tmod (wi64 v) 3 = v % 3 := by rw [wi (by omega), Int.tmod_eq_emod_of_nonneg hv.1]
  unfold law11_NominationLines
  rw [e1, Option.bind_some, e2, Option.bind_some, hk]
  simp only
  rw [made_fmt h, Option.bind_some]
  simp only
  have hw : wi64 ((a.length : Int) + 1) = ((a.length + 1 : Nat) : Int) := by rw [wi (by omega)]; omega
  rw [hw]
  have fin : ∀ (bad : Str) (wb : List Str) (e : Int), bad.length ≤ 100 → linesM (lns (bad ++ [10, 110, 111, 109, 105, 110, 97, 116, 101])) = some [wb, [cmdN]] → (lns (bad ++ [10, 110, 111, 109, 105, 110, 97, 116, 101])).length ≤ 300 → wb.isEmpty = false → (readN wb).2 = e → e ≠ 0 →
      (gd (Nat.ble ((txt (a.map wOf)).length + bad.length) 9223372036854775807) <| gd (Nat.ble ((txt (a.map wOf) ++ bad).length + [10, 110, 111, 109, 105, 110, 97, 116, 101].length) 9223372036854775807) <|
        (nomination_Parse ((txt (a.map wOf) ++ bad) ++ [10, 110, 111, 109, 105, 110, 97, 116, 101])).bind fun r4 =>
          bif decide ((0 : Int) = 0) then (bif decide ((r4.1.length : Int) = 0) then (bif decide (r4.2.1 = ((a.length + 1 : Nat) : Int)) then (bif decide (r4.2.2 = e) then ((law11_awake).bind fun r5 => some r5) else some false) else some false) else some false) else some false) = some true := by
    intro bad wb e h1 h2 h3 h4 h5 h6
    rw [gd_t (Nat.ble_eq_true_of_le (by omega)), gd_t (Nat.ble_eq_true_of_le (by rw [List.length_append]; simp; omega)), parse_stop h h1 h2 h3 h4 h5 h6, Option.bind_some, awake_true]
    simp
  have h4 : v % 3 = 0 ∨ v % 3 = 1 ∨ v % 3 = 2 := by omega
  rcases h4 with h4 | h4 | h4 <;> rw [h4]
  · exact fin [110, 111, 109, 105, 110, 97, 116, 101, 32, 49, 32, 97, 32, 98, 32, 99, 32, 100] [cmdN, [49], [97], [98], [99], [100]] 3 (by decide) (by kernel_rfl) (by decide) rfl (by kernel_rfl) (by decide)
  · exact fin [110, 111, 109, 105, 110, 97, 116, 101, 32, 49, 32, 97, 32, 98, 32, 99, 32, 99, 32, 53] [cmdN, [49], [97], [98], [99], [99], [53]] 9 (by decide) (by kernel_rfl) (by decide) rfl (by kernel_rfl) (by decide)
  · exact fin [110, 111, 109, 105, 110, 97, 116, 101, 32, 48, 49, 32, 97, 32, 98, 32, 99, 32, 100, 32, 53] [cmdN, [48, 49], [97], [98], [99], [100], [53]] 3 (by decide) (by kernel_rfl) (by decide) rfl (by kernel_rfl) (by decide)
end Go.Proofs.YtnilkkggnffklaaDoor
