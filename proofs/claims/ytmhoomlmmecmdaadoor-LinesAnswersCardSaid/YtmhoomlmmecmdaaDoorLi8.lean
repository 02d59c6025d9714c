/- The laws LinesBack, LinesParts and LinesComments, in plain Lean. No condition. -/
import Derived.Test.YtmhoomlmmecmdaaDoorLi7
import Derived.Test.YtmhoomlmmecmdaaDoorSr
namespace Go.Proofs.YtmhoomlmmecmdaaDoor
open Go Go.Sq

/-! ### What is made -/
def WL : List Str := [[97], [116, 97, 110, 107, 45, 55], [45, 53], [48], [33], [120, 35], [126, 126], [49, 48, 57, 57, 53, 49, 49, 54, 50, 55, 55, 55, 54]]
def WO : List Str := [[], [35], [97, 32, 98], [97, 10], [127], [195, 169], [35, 120]]
theorem pickT_ok {l : List Str} {s : List Int} {p : Int} (h : SrcOk s p) (h1 : 1 ≤ l.length) (h2 : l.length ≤ 100) : Ok (keep_Src_Text l s p) (fun r => r.1 ∈ l ∧ r.2.1 = s ∧ SrcOk s r.2.2) := by
  obtain ⟨r, p', e, r1, r2, hp⟩ := n_eq (n := (l.length : Int)) h (by omega) (by omega)
  unfold keep_Src_Text
  refine Ok.eq e ?_
  obtain ⟨k, rfl⟩ : ∃ k : Nat, r = (k : Int) := ⟨r.toNat, by omega⟩
  have hk : k < l.length := by omega
  refine Ok.gd (inB_t hk) (.ret ⟨?_, rfl, hp⟩)
  rw [Int.toNat_natCast]; exact gD_mem hk
def goodT (odd : Int) (x : Str) : Prop := x.length ≤ 13 ∧ (odd = 0 → x ∈ WL)
theorem WL_len : ∀ x ∈ WL, x.length ≤ 13 := by decide
theorem WO_len : ∀ x ∈ WO, x.length ≤ 13 := by decide
theorem made_ok (odd : Int) {s : List Int} {p : Int} (h : SrcOk s p) : Ok (law03_made odd s p) (fun r => r.1 = s ∧ SrcOk s r.2.1 ∧ r.2.2.length ≤ 5 ∧ ∀ w ∈ r.2.2, w.length ≤ 3 ∧ ∀ x ∈ w, goodT odd x) := by
  unfold law03_made
  obtain ⟨r, p', e, r1, r2, hp⟩ := n_eq (n := 6) h (by omega) (by omega)
  refine Ok.eq e ?_
  obtain ⟨n, rfl⟩ : ∃ n : Nat, r = (n : Int) := ⟨r.toNat, by omega⟩
  refine Ok.bind (Q := fun r => r.1 = s ∧ SrcOk s r.2.1 ∧ r.2.2.length ≤ 5 ∧ ∀ w ∈ r.2.2, w.length ≤ 3 ∧ ∀ x ∈ w, goodT odd x) ?_ fun r hr => .ret hr
  refine Ok.loop (fun x : Int × List Int × Int × List (List Str) => ∃ k : Nat, x.1 = (k : Int) ∧ x.2.1 = s ∧ SrcOk s x.2.2.1 ∧ x.2.2.2.length + k ≤ 5 ∧ ∀ w ∈ x.2.2.2, w.length ≤ 3 ∧ ∀ x ∈ w, goodT odd x) (fun x => x.1.toNat) ⟨n, rfl, rfl, hp, by simp; omega, fun w hw => by cases hw⟩ ?_
  rintro ⟨i, d3, d4, out⟩ ⟨k, g1, g2, g3, g4, g5⟩
  simp only at g1 g2 g3 g4 g5
  subst g1 g2
  unfold law03_made_L0
  refine Ok.bif (fun hc => ?_) fun hc => ?_
  · have hc := of_decide_eq_true hc
    obtain ⟨r, p', e, r1, r2, hp⟩ := n_eq (n := 4) g3 (by omega) (by omega)
    refine Ok.eq e ?_
    obtain ⟨m, rfl⟩ : ∃ m : Nat, r = (m : Int) := ⟨r.toNat, by omega⟩
    refine Ok.bind (Q := fun r : List Int × Int × List (List Str) × List Str => r.1 = d3 ∧ SrcOk d3 r.2.1 ∧ r.2.2.1 = out ∧ r.2.2.2.length ≤ 3 ∧ ∀ x ∈ r.2.2.2, goodT odd x) ?_ fun r hr => ?_
    · refine Ok.loop (fun x : Int × List Int × Int × List (List Str) × List Str => ∃ j : Nat, x.1 = (j : Int) ∧ x.2.1 = d3 ∧ SrcOk d3 x.2.2.1 ∧ x.2.2.2.1 = out ∧ x.2.2.2.2.length + j ≤ 3 ∧ ∀ y ∈ x.2.2.2.2, goodT odd y) (fun x => x.1.toNat) ⟨m, rfl, rfl, hp, rfl, by simp; omega, fun w hw => by cases hw⟩ ?_
      rintro ⟨k2, d5, d6, out2, w⟩ ⟨j, f1, f2, f3, f4, f5, f6⟩
      simp only at f1 f2 f3 f4 f5 f6
      subst f1 f2 f4
      unfold law03_made_L1
      refine Ok.bif (fun hc => ?_) fun hc => ?_
      · have hc := of_decide_eq_true hc
        refine Ok.bind (pickT_ok (l := WL) f3 (by decide) (by decide)) ?_
        rintro ⟨x, d5', d6'⟩ ⟨q1, q2, q3⟩
        simp only at q1 q2 q3
        subst q2
        refine Ok.gd (fits_t (by (try dsimp only); omega)) ?_
        have hx : ∀ y ∈ w ++ [x], goodT odd y := by
          intro y hy
          rcases List.mem_append.1 hy with hy | hy
          · exact f6 y hy
          · rw [List.mem_singleton.1 hy]; exact ⟨WL_len x q1, fun _ => q1⟩
        refine Ok.bind (Q := fun r : Bool × List Int × Int × List (List Str) × List Str => (r.1 = true → odd ≠ 0) ∧ r.2.1 = d5' ∧ SrcOk d5' r.2.2.1 ∧ r.2.2.2.1 = out2 ∧ r.2.2.2.2 = w ++ [x]) ?_ fun r hr => ?_
        · refine Ok.bif (fun ho => ?_) fun ho => ?_
          · have ho := of_decide_eq_true ho
            obtain ⟨r, p', e, r1, r2, hp⟩ := n_eq (n := 9) q3 (by omega) (by omega)
            refine Ok.eq e (.ret ⟨fun _ => by omega, rfl, hp, rfl, rfl⟩)
          · exact .ret ⟨(fun h => by cases h), rfl, q3, rfl, rfl⟩
        · obtain ⟨b, d7, d8, o3, w2⟩ := r
          obtain ⟨u1, u2, u3, u4, u5⟩ := hr
          simp only at u1 u2 u3 u4 u5
          subst u2 u4 u5
          refine Ok.bind (Q := fun r : List Int × Int × List (List Str) × List Str => r.1 = d7 ∧ SrcOk d7 r.2.1 ∧ r.2.2.1 = o3 ∧ r.2.2.2.length = w.length + 1 ∧ ∀ y ∈ r.2.2.2, goodT odd y) ?_ fun r hr => ?_
          · refine Ok.bif (fun hb => ?_) fun hb => ?_
            · refine Ok.bind (pickT_ok (l := WO) u3 (by decide) (by decide)) ?_
              rintro ⟨z, d9, d10⟩ ⟨q4, q5, q6⟩
              simp only at q4 q5 q6
              subst q5
              have e1 : wi64 (((w ++ [x]).length : Int) - 1) = ((w.length : Nat) : Int) := by rw [List.length_append, wi (by simp; omega)]; simp
              simp only
              rw [e1]
              refine Ok.gd (inB_t (by simp)) (.ret ⟨rfl, q6, rfl, by simp, fun y hy => ?_⟩)
              rcases List.mem_or_eq_of_mem_set hy with hy | rfl
              · exact hx y hy
              · exact ⟨WO_len _ q4, fun h0 => absurd h0 (u1 hb)⟩
            · exact .ret ⟨rfl, u3, rfl, by simp, hx⟩
          · obtain ⟨d9, d10, o4, w3⟩ := r
            obtain ⟨v1, v2, v3, v4, v5⟩ := hr
            simp only at v1 v2 v3 v4 v5
            subst v1 v3
            have e1 : wi64 ((j : Int) - 1) = ((j - 1 : Nat) : Int) := by rw [wi (by omega)]; omega
            rw [e1]
            exact .ret ⟨⟨j - 1, rfl, rfl, v2, rfl, by simp only; omega, v5⟩, by simp only [Int.toNat_natCast]; omega⟩
      · exact .ret ⟨rfl, f3, rfl, (by (try dsimp only); omega), f6⟩
    · obtain ⟨d5, d6, o2, w⟩ := r
      obtain ⟨v1, v2, v3, v4, v5⟩ := hr
      simp only at v1 v2 v3 v4 v5
      subst v1 v3
      refine Ok.gd (fits_t (by (try dsimp only); omega)) ?_
      have e1 : wi64 ((k : Int) - 1) = ((k - 1 : Nat) : Int) := by rw [wi (by omega)]; omega
      rw [e1]
      refine .ret ⟨⟨k - 1, rfl, rfl, v2, by simp; omega, fun y hy => ?_⟩, by simp only [Int.toNat_natCast]; omega⟩
      rcases List.mem_append.1 hy with hy | hy
      · exact g5 y hy
      · rw [List.mem_singleton.1 hy]; exact ⟨v4, v5⟩
  · exact .ret ⟨rfl, g3, (by (try dsimp only); omega), g5⟩

/-! ### Texts of words, read again -/
theorem wch_ne {b : UInt8} (h : wch b = true) : b ≠ 10 ∧ b ≠ 32 := by
  constructor <;> (rintro rfl; cases h)
theorem word_no {x : Str} (h : wordB x = true) : (10 : UInt8) ∉ x ∧ (32 : UInt8) ∉ x ∧ x ≠ [] := by
  unfold wordB at h
  rw [Bool.and_eq_true, List.all_eq_true] at h
  exact ⟨fun hm => (wch_ne (h.1 _ hm)).1 rfl, fun hm => (wch_ne (h.1 _ hm)).2 rfl, fun e => by rw [e] at h; cases h.2⟩
theorem joinS_no : ∀ {w : List Str}, (∀ x ∈ w, wordB x = true) → (10 : UInt8) ∉ joinS w
  | [], _ => by simp [joinS, Lib.join, List.intercalate]
  | [a], h => by
    have := (word_no (h a (by simp))).1
    simpa [joinS, Lib.join, List.intercalate] using this
  | a :: b :: r, h => by
    rw [joinS_cons2]
    simp only [List.mem_append, List.mem_cons, not_or]
    exact ⟨(word_no (h a (by simp))).1, by decide, joinS_no (fun x hx => h x (List.mem_cons_of_mem _ hx))⟩
theorem splB_join : ∀ {w : List Str}, w ≠ [] → (∀ x ∈ w, wordB x = true) → splB 32 (joinS w) = w
  | [], h, _ => absurd rfl h
  | [a], _, h => by
    have := splB_no (word_no (h a (by simp))).2.1
    simpa [joinS, Lib.join, List.intercalate] using this
  | a :: b :: r, _, h => by
    rw [joinS_cons2, splB_app _ (word_no (h a (by simp))).2.1, splB_join (by simp) (fun x hx => h x (List.mem_cons_of_mem _ hx))]
theorem proper_all {w : List Str} (h : properB w = true) : (∀ x ∈ w, wordB x = true) ∧ ((w.headD []).headD 0 == 35) = false ∧ w.length ≤ 16 := by
  unfold properB at h
  rw [Bool.and_eq_true, Bool.and_eq_true, Nat.ble_eq, List.all_eq_true, Bool.not_eq_true'] at h
  exact ⟨h.1.2, h.2, h.1.1⟩
theorem joinS_head {w : List Str} (hw : ∀ x ∈ w, wordB x = true) : (joinS w).headD 0 = (w.headD []).headD 0 ∧ (w ≠ [] → joinS w ≠ []) := by
  cases w with
  | nil => exact ⟨rfl, fun h => absurd rfl h⟩
  | cons a r =>
    have ha := (word_no (hw a (by simp))).2.2
    cases a with
    | nil => exact absurd rfl ha
    | cons c q =>
      cases r with
      | nil => simp [joinS, Lib.join, List.intercalate]
      | cons b t => rw [joinS_cons2]; simp
theorem lineOf_join {w : List Str} (h : properB w = true) : lineOf (joinS w) = some w := by
  obtain ⟨h1, h2, h3⟩ := proper_all h
  obtain ⟨e1, e2⟩ := joinS_head h1
  unfold lineOf
  cases w with
  | nil => rfl
  | cons a r =>
    have hne := e2 (by simp)
    rw [e1, h2, splB_join (by simp) h1, proper_words (by simp), h]
    cases hj : joinS (a :: r) with
    | nil => exact absurd hj hne
    | cons => rfl
theorem lns_txt (X : Str) : ∀ {a : List (List Str)}, (∀ w ∈ a, properB w = true) → lns (txt a ++ X) = a.map joinS ++ lns X
  | [], _ => rfl
  | w :: r, h => by
    have e : txt (w :: r) ++ X = joinS w ++ 10 :: (txt r ++ X) := by simp [txt]
    rw [e, lns_app _ (joinS_no (proper_all (h w (by simp))).1), lns_txt X (fun w hw => h w (List.mem_cons_of_mem _ hw))]; rfl
theorem linesM_app (Y : List Str) : ∀ {a : List (List Str)}, (∀ w ∈ a, properB w = true) → linesM (a.map joinS ++ Y) = (linesM Y).map (a ++ ·)
  | [], _ => by show linesM Y = _; cases linesM Y <;> simp
  | w :: r, h => by
    show linesM (joinS w :: (r.map joinS ++ Y)) = _
    rw [linesM_cons, lineOf_join (h w (by simp)), linesM_app Y (fun w hw => h w (List.mem_cons_of_mem _ hw))]
    cases linesM Y <;> simp
theorem split_txt {a : List (List Str)} (h : ∀ w ∈ a, properB w = true) (h1 : a.length ≤ 400) (h2 : (txt a).length ≤ 16384) : specSplit (txt a) = (a, 0) := by
  have e := lns_txt [] h
  rw [List.append_nil, show lns [] = [] from rfl, List.append_nil] at e
  have m := linesM_app [] h
  rw [List.append_nil] at m
  unfold specSplit
  rw [e, m, List.length_map, show Nat.blt 16384 (txt a).length = false by rw [Bool.eq_false_iff, ne_eq, Nat.blt_eq]; omega, show Nat.blt 400 a.length = false by rw [Bool.eq_false_iff, ne_eq, Nat.blt_eq]; omega]
  simp [linesM]
theorem join_txt {a : List (List Str)} (h : ∀ w ∈ a, properB w = true) (h1 : a.length ≤ 400) (h2 : (txt a).length ≤ 16384) : specJoin a = (txt a, 0) := by
  unfold specJoin
  rw [show Nat.blt 16384 (txt a).length = false by rw [Bool.eq_false_iff, ne_eq, Nat.blt_eq]; omega, show Nat.blt 400 a.length = false by rw [Bool.eq_false_iff, ne_eq, Nat.blt_eq]; omega, show a.all properB = true from List.all_eq_true.2 h]; rfl

/-! ### Equal lists are the same -/
theorem allT {A : Type} (l : List A) : l.all (fun _ => true) = true := by simp
theorem same_refl {a : List (List Str)} (h1 : a.length ≤ 1000000) (h2 : ∀ w ∈ a, w.length ≤ 1000000) : ref03_Same a a = some true := by
  unfold ref03_Same
  rw [dec_t (rfl : (a.length : Int) = (a.length : Int)), Bool.not_true, cond_false]
  have h3 : ∀ v, v < a.length → iter (fun x => ref03_Same_L1 a a (v : Int) x) 0 = some (.inl ()) := by
    intro v hv
    have hw := h2 _ (gD_mem (d := []) hv)
    have := scan (step := fun x => ref03_Same_L1 a a (v : Int) x) (a.getD v []) [] (fun _ => true) (fin := .inl ()) (bad := .inr false) (fun i hi _ => ?_) (fun i hi hq => by cases hq) ?_
    · rw [allT] at this; exact this
    · unfold ref03_Same_L1
      rw [Int.toNat_natCast, dec_t (show (i : Int) < ((a.getD v []).length : Int) by omega), cond_true, gd_t (inB_t hv), gd_t (inB_t hi), gd_t (inB_t hv), gd_t (inB_t hi), dec_t rfl, Bool.not_true, cond_false, w1 hi (by omega)]
    · unfold ref03_Same_L1
      rw [Int.toNat_natCast, dec_f (by omega)]; rfl
  have h4 : iter (fun x2 => ref03_Same_L0 a a x2) 0 = some (.inl ()) := by
    have := scan (step := fun x2 => ref03_Same_L0 a a x2) a [] (fun _ => true) (fin := .inl ()) (bad := .inr false) (fun i hi _ => ?_) (fun i hi hq => by cases hq) ?_
    · rw [allT] at this; exact this
    · unfold ref03_Same_L0
      rw [dec_t (by omega), cond_true, gd_t (inB_t hi), gd_t (inB_t hi), dec_t rfl, Bool.not_true, cond_false, gd_t (inB_t hi), h3 i hi, Option.bind_some]
      simp only [Sum.elim_inl]
      rw [w1 hi (by omega)]
    · unfold ref03_Same_L0
      rw [dec_f (by omega)]; rfl
  rw [h4]; rfl

/-! ### What is made is written and read -/
structure MadeOk (a : List (List Str)) : Prop where
  n : a.length ≤ 5
  w : ∀ w ∈ a, w.length ≤ 3
  x : ∀ w ∈ a, ∀ x ∈ w, x.length ≤ 13
  p : ∀ w ∈ a, properB w = true
theorem WL_word : ∀ x ∈ WL, wordB x = true ∧ (x.headD 0 == 35) = false := by decide
theorem made_mk {a : List (List Str)} (h1 : a.length ≤ 5) (h2 : ∀ w ∈ a, w.length ≤ 3 ∧ ∀ x ∈ w, goodT 0 x) : MadeOk a := by
  refine ⟨h1, fun w hw => (h2 w hw).1, fun w hw x hx => ((h2 w hw).2 x hx).1, fun w hw => ?_⟩
  obtain ⟨g1, g2⟩ := h2 w hw
  unfold properB
  rw [Bool.and_eq_true, Bool.and_eq_true, Nat.ble_eq, List.all_eq_true, Bool.not_eq_true']
  refine ⟨⟨by omega, fun x hx => (WL_word x ((g2 x hx).2 rfl)).1⟩, ?_⟩
  cases w with
  | nil => rfl
  | cons x r => exact (WL_word x ((g2 x (by simp)).2 rfl)).2
theorem made_bj {a : List (List Str)} (h : MadeOk a) : BJ a := fun w hw => ⟨by have := h.w w hw; omega, fun s hs => by have := h.x w hw s hs; omega⟩
theorem szW_made {w : List Str} (h1 : w.length ≤ 3) (h2 : ∀ x ∈ w, x.length ≤ 13) : szW w ≤ 42 := by
  have := sumL_le h2
  have h3 : w.length * 13 ≤ 3 * 13 := Nat.mul_le_mul_right _ h1
  unfold szW; omega
theorem szL_le {a : List (List Str)} {n : Nat} (h : ∀ w ∈ a, szW w ≤ n) : szL a ≤ a.length * n := by
  induction a with
  | nil => simp [szL]
  | cons w r ih =>
    have h1 := h w (by simp)
    have h2 := ih (fun w hw => h w (by simp [hw]))
    have : szL (w :: r) = szW w + szL r := by simp [szL]
    rw [this, List.length_cons, Nat.add_mul]; omega
theorem made_txt {a : List (List Str)} (h : MadeOk a) : (txt a).length ≤ 215 := by
  have h1 := szL_le (n := 42) fun w hw => szW_made (h.w w hw) (h.x w hw)
  have h2 := (txt_len a).2
  have := h.n
  have h3 : a.length * 42 ≤ 5 * 42 := Nat.mul_le_mul_right _ h.n
  omega
theorem made_join {a : List (List Str)} (h : MadeOk a) : lines_Join a = some (txt a, 0) := by
  rw [ljoin_eq a (made_bj h), join_txt h.p (by have := h.n; omega) (by have := made_txt h; omega)]
theorem made_app {a b : List (List Str)} (ha : MadeOk a) (hb : MadeOk b) : lines_Split (txt a ++ txt b) = some (a ++ b, 0) := by
  have hp : ∀ w ∈ a ++ b, properB w = true := fun w hw => (List.mem_append.1 hw).elim (ha.p w) (hb.p w)
  have h1 := made_txt ha
  have h2 := made_txt hb
  rw [← txt_app, lsplit_eq _ (by rw [txt_app, List.length_append]; omega), split_txt hp (by rw [List.length_append]; have := ha.n; have := hb.n; omega) (by rw [txt_app, List.length_append]; omega)]
theorem made0 {l : List Int} (hl : ∀ x ∈ l, i64P x) : ∃ s p a, keep_New l = some (s, 0) ∧ law03_made 0 s 0 = some (s, p, a) ∧ MadeOk a ∧ SrcOk s p := by
  obtain ⟨s, e, hs⟩ := new_eq hl
  obtain ⟨⟨s', p, a⟩, e2, g1, g2, g3, g4⟩ := made_ok 0 hs
  simp only at g1 g2 g3 g4
  subst g1
  exact ⟨s', p, a, e, e2, made_mk g3 g4, g2⟩
theorem parts_true {l m : List Int} (hl : ∀ x ∈ l, i64P x) (hm : ∀ x ∈ m, i64P x) : law03_LinesParts l m = some true := by
  obtain ⟨s1, p1, a, e1, e2, ha, _⟩ := made0 hl
  obtain ⟨s2, p2, b, f1, f2, hb, _⟩ := made0 hm
  have h1 := made_txt ha
  have h2 := made_txt hb
  unfold law03_LinesParts
  rw [e1, Option.bind_some, e2, Option.bind_some, f1, Option.bind_some, f2, Option.bind_some]
  simp only
  rw [made_join ha, Option.bind_some, made_join hb, Option.bind_some]
  simp only
  rw [gd_t (Nat.ble_eq_true_of_le (by omega)), made_app ha hb, Option.bind_some]
  have hn1 := ha.n
  have hn2 := hb.n
  simp only [decide_true, cond_true]
  rw [gd_t (fits_t (by omega)), gd_t (fits_t (by simp; omega)), List.nil_append, same_refl (by rw [List.length_append]; omega) (fun w hw => by
    rcases List.mem_append.1 hw with hw | hw
    · have := ha.w w hw; omega
    · have := hb.w w hw; omega), awake_true]; rfl

/-! ### LinesBack -/
theorem splB_tot (c : UInt8) : ∀ x : Str, sumL (splB c x) + (splB c x).length = x.length + 1
  | [] => rfl
  | b :: l => by
    have ih := splB_tot c l
    unfold splB
    cases hb : b == c with
    | true =>
      simp only [cond_true, List.length_cons]
      have : sumL ([] :: splB c l) = sumL (splB c l) := by simp [sumL]
      omega
    | false =>
      simp only [cond_false]
      split
      · rename_i h; exact absurd h (splB_ne c l)
      · rename_i h t hs
        rw [hs] at ih
        have e1 : sumL ((b :: h) :: t) = h.length + 1 + sumL t := by simp [sumL]
        have e2 : sumL (h :: t) = h.length + sumL t := by simp [sumL]
        simp only [List.length_cons] at ih ⊢
        omega
def tot (ls : List Str) : Nat := (ls.map fun x => x.length + 1).sum
theorem tot_cons (x : Str) (r : List Str) : tot (x :: r) = x.length + 1 + tot r := by simp [tot]
theorem lns_tot : ∀ s : Str, tot (lns s) ≤ s.length + 1
  | [] => by simp [lns, tot]
  | b :: l => by
    have ih := lns_tot l
    unfold lns
    cases hb : b == (10 : UInt8) with
    | true => simp only [cond_true, tot_cons, List.length_cons, List.length_nil]; omega
    | false =>
      simp only [cond_false]
      split
      · simp only [tot_cons, List.length_cons, List.length_nil]; simp [tot]
      · rename_i h t hs
        rw [hs] at ih
        simp only [tot_cons, List.length_cons] at ih ⊢
        omega
theorem lineOf_ok {x : Str} {w : List Str} (h : lineOf x = some w) : properB w = true ∧ (joinS w).length ≤ x.length ∧ (∀ s ∈ w, s.length ≤ x.length) := by
  unfold lineOf at h
  cases hc : x.isEmpty || x.headD 0 == 35 with
  | true => rw [hc] at h; injection h with h; subst h; exact ⟨rfl, by simp [joinS, Lib.join, List.intercalate], fun s hs => by cases hs⟩
  | false =>
    rw [hc] at h
    cases hw : wordsB (splB 32 x) with
    | false => rw [hw] at h; cases h
    | true =>
      rw [hw] at h; injection h with h; subst h
      refine ⟨by rw [← proper_words (splB_ne 32 x)]; exact hw, ?_, fun s hs => splB_mem hs⟩
      have h1 := joinS_len (splB_ne 32 x)
      have h2 := splB_tot 32 x
      omega
theorem linesM_ok : ∀ {ls : List Str} {c : List (List Str)}, linesM ls = some c → c.length = ls.length ∧ (txt c).length ≤ tot ls ∧ ∀ w ∈ c, properB w = true ∧ ∀ s ∈ w, s.length ≤ tot ls
  | [], c, h => by injection h with h; subst h; exact ⟨rfl, by simp [txt, tot], fun w hw => by cases hw⟩
  | x :: r, c, h => by
    rw [linesM_cons] at h
    split at h
    · cases h
    · rename_i w hw
      obtain ⟨q, hq, rfl⟩ := Option.map_eq_some_iff.1 h
      obtain ⟨i1, i2, i3⟩ := linesM_ok hq
      obtain ⟨j1, j2, j3⟩ := lineOf_ok hw
      rw [tot_cons]
      have e : (txt (w :: q)).length = (joinS w).length + 1 + (txt q).length := by simp [txt]; omega
      refine ⟨by simp [i1], by omega, fun w' hw' => ?_⟩
      rcases List.mem_cons.1 hw' with rfl | hw'
      · exact ⟨j1, fun s hs => by have := j3 s hs; omega⟩
      · exact ⟨(i3 w' hw').1, fun s hs => by have := (i3 w' hw').2 s hs; omega⟩
/-- What is read from a text. -/
theorem spec_ok (s : Str) (hs : s.length ≤ 16000) : ((specSplit s).2 ≠ 0 ∧ (specSplit s).1 = []) ∨ ((specSplit s).2 = 0 ∧ (specSplit s).1.length ≤ 400 ∧ (txt (specSplit s).1).length ≤ s.length + 1 ∧ ∀ w ∈ (specSplit s).1, properB w = true ∧ ∀ x ∈ w, x.length ≤ 16001) := by
  unfold specSplit
  cases hb : (Nat.blt 16384 s.length || Nat.blt 400 (lns s).length) with
  | true => exact .inl ⟨(by show (4 : Int) ≠ 0; decide), rfl⟩
  | false =>
    rw [Bool.or_eq_false_iff] at hb
    have h4 : ¬ 400 < (lns s).length := fun h => by rw [show Nat.blt 400 (lns s).length = true by rw [Nat.blt_eq]; exact h] at hb; cases hb.2
    rw [cond_false]
    cases hm : linesM (lns s) with
    | none => exact .inl ⟨(by show (3 : Int) ≠ 0; decide), rfl⟩
    | some c =>
      obtain ⟨i1, i2, i3⟩ := linesM_ok hm
      have ht := lns_tot s
      exact .inr ⟨rfl, by show c.length ≤ 400; omega, by show (txt c).length ≤ _; omega, fun w hw => ⟨(i3 w hw).1, fun x hx => by have := (i3 w hw).2 x hx; omega⟩⟩
theorem back_true {l : List Int} (hl : ∀ x ∈ l, i64P x) (s : Str) : law03_LinesBack l s = some true := by
  unfold law03_LinesBack
  by_cases h0 : 2000 < s.length
  · rw [dec_t (show 2000 < (s.length : Int) by omega), awake_true]; rfl
  · rw [dec_f (show ¬ 2000 < (s.length : Int) by omega), cond_false]
    obtain ⟨s1, p1, a, e1, e2, ha, _⟩ := made0 hl
    have h1 := made_txt ha
    have hn := ha.n
    rw [e1, Option.bind_some, e2, Option.bind_some]
    simp only
    rw [made_join ha, Option.bind_some]
    simp only
    rw [lsplit_eq _ (by omega), split_txt ha.p (by omega) (by omega), Option.bind_some]
    simp only [decide_true, Bool.not_true, cond_false]
    rw [same_refl (by omega) (fun w hw => by have := ha.w w hw; omega)]
    simp only [Option.bind_some, Bool.not_true, cond_false]
    rw [lsplit_eq s (by omega), Option.bind_some]
    rcases spec_ok s (by omega) with ⟨g1, _⟩ | ⟨g1, g2, g3, g4⟩
    · rw [dec_f g1, Bool.not_false, cond_true, awake_true]; rfl
    · rw [g1]
      simp only [decide_true, Bool.not_true, cond_false]
      generalize (specSplit s).1 = c at g2 g3 g4
      have hp : ∀ w ∈ c, properB w = true := fun w hw => (g4 w hw).1
      have hbj : BJ c := fun w hw => ⟨by have := (proper_all (hp w hw)).2.2; omega, fun x hx => by have := (g4 w hw).2 x hx; omega⟩
      rw [ljoin_eq c hbj, join_txt hp g2 (by omega), Option.bind_some]
      simp only
      rw [lsplit_eq _ (by omega), split_txt hp g2 (by omega), Option.bind_some]
      simp only [decide_true, cond_true]
      rw [same_refl (by omega) (fun w hw => by have := (proper_all (hp w hw)).2.2; omega), awake_true]; rfl

/-! ### LinesComments -/
theorem nblt_f {a b : Nat} (h : ¬ a < b) : Nat.blt a b = false := by rw [Bool.eq_false_iff, ne_eq, Nat.blt_eq]; exact h
theorem com_L0 (c : Str) (hc : c.length ≤ 100) : Ok (iter (fun x => law03_LinesComments_L0 c x) 0) (fun e => e = .inr true ∨ (e = .inl () ∧ (10 : UInt8) ∉ c)) := by
  refine Ok.loop (fun x : Int => ∃ k : Nat, x = (k : Int) ∧ k ≤ c.length ∧ (10 : UInt8) ∉ c.take k) (fun x => c.length - x.toNat) ⟨0, rfl, by omega, by simp⟩ ?_
  rintro v ⟨k, rfl, g1, g2⟩
  unfold law03_LinesComments_L0
  refine Ok.bif (fun hh => ?_) fun hh => ?_
  · have hh := of_decide_eq_true hh
    have hk : k < c.length := by omega
    refine Ok.gd (inB_t hk) ?_
    rw [Int.toNat_natCast, eqU _ 10 10 rfl]
    refine Ok.bif (fun hb => ?_) fun hb => ?_
    · exact Ok.eq awake_true (.ret (.inl rfl))
    · rw [w1 hk (by omega)]
      refine .ret ⟨⟨k + 1, rfl, by omega, ?_⟩, by simp only [Int.toNat_natCast]; omega⟩
      rw [take_next 0 hk]
      simp only [List.mem_append, List.mem_singleton, not_or]
      rw [beq_eq_false_iff_ne] at hb
      exact ⟨g2, fun e => hb e.symm⟩
  · have hh := of_decide_eq_false hh
    refine .ret (.inr ⟨rfl, ?_⟩)
    rwa [List.take_of_length_le (by omega)] at g2
theorem MadeOk.take {a : List (List Str)} (h : MadeOk a) (k : Nat) : MadeOk (a.take k) :=
  ⟨by have := h.n; rw [List.length_take]; omega, fun w hw => h.w w (List.mem_of_mem_take hw), fun w hw => h.x w (List.mem_of_mem_take hw), fun w hw => h.p w (List.mem_of_mem_take hw)⟩
theorem MadeOk.drop {a : List (List Str)} (h : MadeOk a) (k : Nat) : MadeOk (a.drop k) :=
  ⟨by have := h.n; rw [List.length_drop]; omega, fun w hw => h.w w (List.mem_of_mem_drop hw), fun w hw => h.x w (List.mem_of_mem_drop hw), fun w hw => h.p w (List.mem_of_mem_drop hw)⟩
theorem comments_true {l : List Int} (hl : ∀ x ∈ l, i64P x) (v : Int) (hv : 0 ≤ v ∧ v < 256) (c : Str) : law03_LinesComments l v c = some true := by
  unfold law03_LinesComments
  by_cases h0 : 100 < c.length
  · rw [dec_t (show 100 < (c.length : Int) by omega), awake_true]; rfl
  · rw [dec_f (show ¬ 100 < (c.length : Int) by omega), cond_false]
    obtain ⟨e, he, h1⟩ := com_L0 c (by omega)
    rw [he, Option.bind_some]
    rcases h1 with rfl | ⟨rfl, hc⟩
    · rfl
    · simp only [Sum.elim_inl]
      obtain ⟨s1, p1, a, e1, e2, ha, _⟩ := made0 hl
      have hn := ha.n
      rw [e1, Option.bind_some, e2, Option.bind_some]
      simp only
      have e3 : wi64 ((a.length : Int) + 1) = ((a.length + 1 : Nat) : Int) := w1 (n := 100) (by omega) (by omega)
      rw [e3, wi (by omega), mod_eq (by unfold i64P; omega) (by omega) (by omega), Option.bind_some]
      obtain ⟨k, hk⟩ : ∃ k : Nat, v % ((a.length + 1 : Nat) : Int) = (k : Int) := ⟨(v % ((a.length + 1 : Nat) : Int)).toNat, by have := Int.emod_nonneg v (show ((a.length + 1 : Nat) : Int) ≠ 0 by omega); omega⟩
      have hka : k ≤ a.length := by have := Int.emod_lt_of_pos v (show (0 : Int) < ((a.length + 1 : Nat) : Int) by omega); omega
      rw [hk, Int.toNat_natCast]
      have c1 : cutG none (some (.i64, (k : Int))) a.length = true := by simp [cutG]; omega
      have c2 : cutG (some (.i64, (k : Int))) none a.length = true := by simp [cutG]; omega
      have hA := ha.take k
      have hB := ha.drop k
      have t1 := made_txt hA
      have t2 := made_txt hB
      rw [gd_t c1, made_join hA, Option.bind_some, gd_t c2, made_join hB, Option.bind_some]
      simp only
      rw [gd_t (Nat.ble_eq_true_of_le (by simp; omega)), gd_t (Nat.ble_eq_true_of_le (by simp; omega)), gd_t (Nat.ble_eq_true_of_le (by simp; omega)), gd_t (Nat.ble_eq_true_of_le (by simp; omega))]
      have hs : lines_Split ((((txt (a.take k) ++ [35]) ++ c) ++ [10]) ++ txt (a.drop k)) = some ((a.take k ++ [[]]) ++ a.drop k, 0) := by
        have el : ((((txt (a.take k) ++ [35]) ++ c) ++ [10]) ++ txt (a.drop k)) = txt (a.take k) ++ ((35 :: c) ++ 10 :: (txt (a.drop k) ++ [])) := by simp
        have hlen : ((((txt (a.take k) ++ [35]) ++ c) ++ [10]) ++ txt (a.drop k)).length ≤ 600 := by simp; omega
        have hcc : (10 : UInt8) ∉ (35 :: c : Str) := by simp only [List.mem_cons, not_or]; exact ⟨by decide, hc⟩
        have hl1 : lns ((((txt (a.take k) ++ [35]) ++ c) ++ [10]) ++ txt (a.drop k)) = (a.take k).map joinS ++ (35 :: c) :: ((a.drop k).map joinS ++ []) := by
          rw [el, lns_txt _ hA.p, lns_app _ hcc, lns_txt _ hB.p]; rfl
        have hm : linesM ((a.take k).map joinS ++ (35 :: c) :: ((a.drop k).map joinS ++ [])) = some ((a.take k ++ [[]]) ++ a.drop k) := by
          rw [linesM_app _ hA.p, linesM_cons, linesM_app _ hB.p]
          have : lineOf (35 :: c) = some [] := rfl
          rw [this]
          simp [linesM]
        rw [lsplit_eq _ (by omega)]
        unfold specSplit
        rw [hl1, hm, nblt_f (a := 16384) (by omega), nblt_f (a := 400) (by simp; omega)]
        rfl
      have n1 := hA.n
      have n2 := hB.n
      rw [hs, Option.bind_some, gd_t c1, gd_t (fits_t (by omega)), gd_t (fits_t (by simp; omega)), gd_t c2, gd_t (fits_t (by simp; omega))]
      simp only [decide_true, cond_true]
      rw [List.nil_append, same_refl (by simp; omega) (fun w hw => by
        rcases List.mem_append.1 hw with hw | hw
        · rcases List.mem_append.1 hw with hw | hw
          · have := hA.w w hw; omega
          · rw [List.mem_singleton.1 hw]; simp
        · have := hB.w w hw; omega), awake_true]; rfl
end Go.Proofs.YtmhoomlmmecmdaaDoor
