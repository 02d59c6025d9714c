/- What was joined is split again; names. No condition. -/
import Derived.Test.YtnilkkggnffklaaDoorPr3
import Derived.Test.YtnilkkggnffklaaDoorSr
namespace Go.Proofs.YtnilkkggnffklaaDoor
open Go Go.Sq
set_option linter.unusedVariables false
theorem eqU (b c : UInt8) (n : Int) (h : (c.toNat : Int) = n) : decide ((Int.ofNat b.toNat) = n) = (b == c) := by
  rw [Bool.eq_iff_iff, decide_eq_true_iff, beq_iff_eq]
  simp only [Int.ofNat_eq_natCast]
  constructor
  · intro e; exact UInt8.toNat_inj.1 (by omega)
  · rintro rfl; exact h
theorem wch_ne {b : UInt8} (h : wch b = true) : b ≠ 10 ∧ b ≠ 32 := by
  constructor <;> (rintro rfl; cases h)
theorem word_no {x : Str} (h : wordB x = true) : (10 : UInt8) ∉ x ∧ (32 : UInt8) ∉ x ∧ x ≠ [] := by
  unfold wordB at h
  rw [Bool.and_eq_true, List.all_eq_true] at h
  exact ⟨fun hm => (wch_ne (h.1 _ hm)).1 rfl, fun hm => (wch_ne (h.1 _ hm)).2 rfl, fun e => by rw [e] at h; cases h.2⟩
theorem joinS_no : ∀ {w : List Str}, (∀ x ∈ w, wordB x = true) → (10 : UInt8) ∉ joinS w
  | [], _ => by simp [joinS, Lib.join, List.intercalate]
  | [a], h => by
    have := (word_no (h a (by simp))).1
    simpa [joinS, Lib.join, List.intercalate] using this
  | a :: b :: r, h => by
    rw [joinS_cons2]
    simp only [List.mem_append, List.mem_cons, not_or]
    exact ⟨(word_no (h a (by simp))).1, by decide, joinS_no (fun x hx => h x (List.mem_cons_of_mem _ hx))⟩
theorem splB_join : ∀ {w : List Str}, w ≠ [] → (∀ x ∈ w, wordB x = true) → splB 32 (joinS w) = w
  | [], h, _ => absurd rfl h
  | [a], _, h => by
    have := splB_no (word_no (h a (by simp))).2.1
    simpa [joinS, Lib.join, List.intercalate] using this
  | a :: b :: r, _, h => by
    rw [joinS_cons2, splB_app _ (word_no (h a (by simp))).2.1, splB_join (by simp) (fun x hx => h x (List.mem_cons_of_mem _ hx))]
theorem proper_all {w : List Str} (h : properB w = true) : (∀ x ∈ w, wordB x = true) ∧ ((w.headD []).headD 0 == 35) = false ∧ w.length ≤ 16 := by
  unfold properB at h
  rw [Bool.and_eq_true, Bool.and_eq_true, Nat.ble_eq, List.all_eq_true, Bool.not_eq_true'] at h
  exact ⟨h.1.2, h.2, h.1.1⟩
theorem joinS_head {w : List Str} (hw : ∀ x ∈ w, wordB x = true) : (joinS w).headD 0 = (w.headD []).headD 0 ∧ (w ≠ [] → joinS w ≠ []) := by
  cases w with
  | nil => exact ⟨rfl, fun h => absurd rfl h⟩
  | cons a r =>
    have ha := (word_no (hw a (by simp))).2.2
    cases a with
    | nil => exact absurd rfl ha
    | cons c q =>
      cases r with
      | nil => simp [joinS, Lib.join, List.intercalate]
      | cons b t => rw [joinS_cons2]; simp
theorem lineOf_join {w : List Str} (h : properB w = true) : lineOf (joinS w) = some w := by
  obtain ⟨h1, h2, h3⟩ := proper_all h
  obtain ⟨e1, e2⟩ := joinS_head h1
  unfold lineOf
  cases w with
  | nil => rfl
  | cons a r =>
    have hne := e2 (by simp)
    rw [e1, h2, splB_join (by simp) h1, proper_words (by simp), h]
    cases hj : joinS (a :: r) with
    | nil => exact absurd hj hne
    | cons => rfl
theorem lns_txt (X : Str) : ∀ {a : List (List Str)}, (∀ w ∈ a, properB w = true) → lns (txt a ++ X) = a.map joinS ++ lns X
  | [], _ => rfl
  | w :: r, h => by
    have e : txt (w :: r) ++ X = joinS w ++ 10 :: (txt r ++ X) := by simp [txt]
    rw [e, lns_app _ (joinS_no (proper_all (h w (by simp))).1), lns_txt X (fun w hw => h w (List.mem_cons_of_mem _ hw))]; rfl
theorem linesM_app (Y : List Str) : ∀ {a : List (List Str)}, (∀ w ∈ a, properB w = true) → linesM (a.map joinS ++ Y) = (linesM Y).map (a ++ ·)
  | [], _ => by show linesM Y = _; cases linesM Y <;> simp
  | w :: r, h => by
    show linesM (joinS w :: (r.map joinS ++ Y)) = _
    rw [linesM_cons, lineOf_join (h w (by simp)), linesM_app Y (fun w hw => h w (List.mem_cons_of_mem _ hw))]
    cases linesM Y <;> simp
theorem split_txt {a : List (List Str)} (h : ∀ w ∈ a, properB w = true) (h1 : a.length ≤ 400) (h2 : (txt a).length ≤ 16384) : specSplit (txt a) = (a, 0) := by
  have e := lns_txt [] h
  rw [List.append_nil, show lns [] = [] from rfl, List.append_nil] at e
  have m := linesM_app [] h
  rw [List.append_nil] at m
  unfold specSplit
  rw [e, m, List.length_map, show Nat.blt 16384 (txt a).length = false by rw [Bool.eq_false_iff, ne_eq, Nat.blt_eq]; omega, show Nat.blt 400 a.length = false by rw [Bool.eq_false_iff, ne_eq, Nat.blt_eq]; omega]
  simp [linesM]
theorem join_txt {a : List (List Str)} (h : ∀ w ∈ a, properB w = true) (h1 : a.length ≤ 400) (h2 : (txt a).length ≤ 16384) : specJoin a = (txt a, 0) := by
  unfold specJoin
  rw [show Nat.blt 16384 (txt a).length = false by rw [Bool.eq_false_iff, ne_eq, Nat.blt_eq]; omega, show Nat.blt 400 a.length = false by rw [Bool.eq_false_iff, ne_eq, Nat.blt_eq]; omega, show a.all properB = true from List.all_eq_true.2 h]; rfl
theorem allT {A : Type} (l : List A) : l.all (fun _ => true) = true := by simp
theorem szL_le {a : List (List Str)} {n : Nat} (h : ∀ w ∈ a, szW w ≤ n) : szL a ≤ a.length * n := by
  induction a with
  | nil => simp [szL]
  | cons w r ih =>
    have h1 := h w (by simp)
    have h2 := ih (fun w hw => h w (by simp [hw]))
    have : szL (w :: r) = szW w + szL r := by simp [szL]
    rw [this, List.length_cons, Nat.add_mul]; omega
theorem nblt_f {a b : Nat} (h : ¬ a < b) : Nat.blt a b = false := by rw [Bool.eq_false_iff, ne_eq, Nat.blt_eq]; exact h
def fch (b : UInt8) : Bool := Nat.ble 97 b.toNat && Nat.ble b.toNat 122
def nch (b : UInt8) : Bool := fch b || (Nat.ble 48 b.toNat && Nat.ble b.toNat 57) || b == 45
def nameB (s : Str) : Bool := Nat.ble 1 s.length && Nat.ble s.length 12 && fch (s.headD 0) && s.all nch
theorem place_eq (b : UInt8) : lines_place (Int.ofNat b.toNat) = some (bif fch b then 1 else bif nch b then 2 else 0) := by
  have h1 : decide (97 ≤ (Int.ofNat b.toNat)) = Nat.ble 97 b.toNat := by rw [Bool.eq_iff_iff, decide_eq_true_iff, Nat.ble_eq]; simp only [Int.ofNat_eq_natCast]; omega
  have h2 : decide ((Int.ofNat b.toNat) ≤ 122) = Nat.ble b.toNat 122 := by rw [Bool.eq_iff_iff, decide_eq_true_iff, Nat.ble_eq]; simp only [Int.ofNat_eq_natCast]; omega
  have h3 : decide (48 ≤ (Int.ofNat b.toNat)) = Nat.ble 48 b.toNat := by rw [Bool.eq_iff_iff, decide_eq_true_iff, Nat.ble_eq]; simp only [Int.ofNat_eq_natCast]; omega
  have h4 : decide ((Int.ofNat b.toNat) ≤ 57) = Nat.ble b.toNat 57 := by rw [Bool.eq_iff_iff, decide_eq_true_iff, Nat.ble_eq]; simp only [Int.ofNat_eq_natCast]; omega
  unfold lines_place nch fch
  rw [h1, h2, h3, h4, eqU _ 45 45 rfl]
  cases Nat.ble 97 b.toNat <;> cases Nat.ble b.toNat 122 <;> cases Nat.ble 48 b.toNat <;> cases Nat.ble b.toNat 57 <;> cases b == 45 <;> rfl
theorem nch_f {b : UInt8} (h : fch b = true) : nch b = true := by unfold nch; rw [h]; rfl
theorem lname_eq (s : Str) (hl : s.length ≤ 1000000) : lines_Name s = some (nameB s) := by
  have h : iter (fun x => lines_Name_L0 s x) 0 = some (bif s.all nch then .inl () else .inr false) := by
    refine scan s 0 nch (fun i hi hq => ?_) (fun i hi hq => ?_) ?_
    · unfold lines_Name_L0
      rw [dec_t (by omega), cond_true, gd_t (inB_t hi), Int.toNat_natCast, place_eq, Option.bind_some, hq, w1 hi (by omega)]
      cases fch (s.getD i 0) <;> rfl
    · unfold lines_Name_L0
      rw [dec_t (by omega), cond_true, gd_t (inB_t hi), Int.toNat_natCast, place_eq, Option.bind_some, hq]
      cases hf : fch (s.getD i 0) with
      | true => rw [nch_f hf] at hq; cases hq
      | false => rfl
    · unfold lines_Name_L0
      rw [dec_f (by omega)]; rfl
  unfold lines_Name nameB
  by_cases h1 : s.length < 1
  · rw [dec_t (show (s.length : Int) < 1 by omega), show Nat.ble 1 s.length = false by rw [Bool.eq_false_iff, ne_eq, Nat.ble_eq]; omega]; rfl
  · rw [dec_f (show ¬ (s.length : Int) < 1 by omega), cond_false, show Nat.ble 1 s.length = true by rw [Nat.ble_eq]; omega]
    by_cases h2 : 12 < s.length
    · rw [dec_t (show 12 < (s.length : Int) by omega), show Nat.ble s.length 12 = false by rw [Bool.eq_false_iff, ne_eq, Nat.ble_eq]; omega]; rfl
    · rw [dec_f (show ¬ 12 < (s.length : Int) by omega), cond_false, show Nat.ble s.length 12 = true by rw [Nat.ble_eq]; omega, gd_t (inB0 (by omega)), place_eq, Option.bind_some, h]
      have hh : s.getD 0 0 = s.headD 0 := by cases s <;> rfl
      rw [hh]
      cases fch (s.headD 0) with
      | false => cases nch (s.headD 0) <;> rfl
      | true => cases s.all nch <;> rfl
end Go.Proofs.YtnilkkggnffklaaDoor
