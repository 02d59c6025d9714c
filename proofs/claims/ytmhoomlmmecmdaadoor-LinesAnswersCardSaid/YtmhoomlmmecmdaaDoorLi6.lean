/- Texts in lines of words: Join and its reference are one function. No condition. -/
import Derived.Test.YtmhoomlmmecmdaaDoorLi5
namespace Go.Proofs.YtmhoomlmmecmdaaDoor
open Go Go.Sq

abbrev joinS (w : List Str) : Str := Lib.join w [32]
theorem joinS_cons2 (a b : Str) (r : List Str) : joinS (a :: b :: r) = a ++ 32 :: joinS (b :: r) := by
  simp [joinS, Lib.join, List.intercalate]
theorem joinS_snoc (x : Str) : ∀ {l : List Str}, l ≠ [] → joinS (l ++ [x]) = joinS l ++ 32 :: x
  | [], h => absurd rfl h
  | [a], _ => by
    show joinS (a :: x :: []) = _
    rw [joinS_cons2]
    simp [joinS, Lib.join, List.intercalate]
  | a :: b :: r, _ => by
    show joinS (a :: b :: (r ++ [x])) = _
    rw [joinS_cons2, joinS_cons2, show b :: (r ++ [x]) = (b :: r) ++ [x] from rfl, joinS_snoc x (by simp), List.append_assoc]; rfl
def sumL (w : List Str) : Nat := (w.map List.length).sum
theorem sumL_app (a b : List Str) : sumL (a ++ b) = sumL a + sumL b := by simp [sumL]
theorem sumL_take (w : List Str) (k : Nat) : sumL (w.take k) ≤ sumL w := by
  have := sumL_app (w.take k) (w.drop k)
  rw [List.take_append_drop] at this; omega
theorem sumL_le {w : List Str} {n : Nat} (h : ∀ s ∈ w, s.length ≤ n) : sumL w ≤ w.length * n := by
  induction w with
  | nil => simp [sumL]
  | cons a r ih =>
    have h1 := h a (by simp)
    have h2 := ih (fun s hs => h s (by simp [hs]))
    have : sumL (a :: r) = a.length + sumL r := by simp [sumL]
    rw [this, List.length_cons, Nat.add_mul]; omega
theorem joinS_len : ∀ {w : List Str}, w ≠ [] → (joinS w).length + 1 = sumL w + w.length
  | [], h => absurd rfl h
  | [a], _ => by simp [joinS, Lib.join, List.intercalate, sumL]
  | a :: b :: r, _ => by
    rw [joinS_cons2]
    have ih := joinS_len (w := b :: r) (by simp)
    have : sumL (a :: b :: r) = a.length + sumL (b :: r) := by simp [sumL]
    rw [this]
    simp only [List.length_append, List.length_cons] at ih ⊢
    omega
theorem joinS_le (w : List Str) : (joinS w).length ≤ sumL w + w.length := by
  cases w with
  | nil => simp [joinS, Lib.join, List.intercalate]
  | cons a r => have := joinS_len (w := a :: r) (by simp); omega
def txt (l : List (List Str)) : Str := l.flatMap fun w => joinS w ++ [10]
theorem txt_app (a b : List (List Str)) : txt (a ++ b) = txt a ++ txt b := by simp [txt]
theorem txt_one (w : List Str) : txt [w] = joinS w ++ [10] := by simp [txt]
def szW (w : List Str) : Nat := w.length + sumL w
def szL (l : List (List Str)) : Nat := (l.map szW).sum
theorem szL_app (a b : List (List Str)) : szL (a ++ b) = szL a + szL b := by simp [szL]
theorem txt_len : ∀ l : List (List Str), szL l ≤ (txt l).length ∧ (txt l).length ≤ szL l + l.length
  | [] => by simp [szL, txt]
  | w :: r => by
    obtain ⟨h1, h2⟩ := txt_len r
    have e1 : szL (w :: r) = szW w + szL r := by simp [szL]
    have e2 : (txt (w :: r)).length = (joinS w).length + 1 + (txt r).length := by simp [txt]; omega
    rw [e1, e2, List.length_cons]
    cases w with
    | nil => simp [szW, sumL, joinS, Lib.join, List.intercalate]; omega
    | cons a q =>
      have := joinS_len (w := a :: q) (by simp)
      unfold szW; omega
theorem txt_take (l : List (List Str)) (k : Nat) : (txt (l.take k)).length ≤ (txt l).length := by
  have := txt_app (l.take k) (l.drop k)
  rw [List.take_append_drop] at this
  rw [this, List.length_append]; omega
def specJoin (l : List (List Str)) : Str × Int := bif Nat.blt 400 l.length then ([], 4) else bif !l.all properB then ([], 3) else bif Nat.blt 16384 (txt l).length then ([], 4) else (txt l, 0)

theorem rline_eq (w : List Str) (hl : szW w ≤ 1000000000) : ref03_Line w = some (joinS w) := by
  unfold ref03_Line
  suffices h : Ok (iter (fun x => ref03_Line_L0 w x.1 x.2) ([], 0)) (fun e => e = joinS w) by rw [ok_eq h]; rfl
  refine Ok.loop (fun x : Str × Int => ∃ k : Nat, x.2 = (k : Int) ∧ k ≤ w.length ∧ x.1 = joinS (w.take k)) (fun x => w.length - x.2.toNat) ⟨0, rfl, by omega, rfl⟩ ?_
  rintro ⟨s, v⟩ ⟨k, h1, h2, h3⟩
  simp only at h1 h3
  subst h1 h3
  unfold ref03_Line_L0
  simp only
  unfold szW at hl
  have hb : (joinS (w.take k)).length ≤ sumL w + w.length := by
    have := joinS_le (w.take k)
    have := sumL_take w k
    have : (w.take k).length ≤ w.length := by simp; omega
    omega
  refine Ok.bif (fun hc => ?_) fun hc => ?_
  · have hc := of_decide_eq_true hc
    have hk : k < w.length := by omega
    have hX : (w.getD k []).length ≤ sumL w := by
      have := sumL_take w (k + 1)
      rw [take_next [] hk, sumL_app] at this
      have e : sumL [w.getD k []] = (w.getD k []).length := by simp [sumL]
      omega
    by_cases h0 : k = 0
    · subst h0
      rw [dec_f (show ¬ (0 : Int) < ((0 : Nat) : Int) by omega), cond_false, Option.bind_some, gd_t (inB_t hk), gd_t (Nat.ble_eq_true_of_le (by rw [Int.toNat_natCast]; omega)), w1 hk (by omega)]
      refine .ret ⟨⟨1, rfl, by omega, ?_⟩, by simp only [Int.toNat_natCast]; omega⟩
      rw [take_next [] hk, Int.toNat_natCast]
      simp [joinS, Lib.join, List.intercalate]
    · rw [dec_t (show (0 : Int) < (k : Int) by omega), cond_true, gd_t (Nat.ble_eq_true_of_le (by show (joinS (w.take k)).length + 1 ≤ _; omega)), Option.bind_some, gd_t (inB_t hk), gd_t (Nat.ble_eq_true_of_le (by rw [Int.toNat_natCast, List.length_append]; show (joinS (w.take k)).length + 1 + _ ≤ _; omega)), w1 hk (by omega)]
      refine .ret ⟨⟨k + 1, rfl, by omega, ?_⟩, by simp only [Int.toNat_natCast]; omega⟩
      have hne : w.take k ≠ [] := by intro e; have := congrArg List.length e; rw [List.length_take, List.length_nil] at this; omega
      rw [take_next [] hk, joinS_snoc _ hne, Int.toNat_natCast, List.append_assoc]; rfl
  · have hc := of_decide_eq_false hc
    have : k = w.length := by omega
    subst this
    exact .ret (by rw [List.take_length])
/-- Lists of words of moderate size. -/
def BJ (l : List (List Str)) : Prop := ∀ w ∈ l, w.length ≤ 1000000 ∧ ∀ s ∈ w, s.length ≤ 1000000
theorem proper_sz {w : List Str} (h : properB w = true) (hb : ∀ s ∈ w, s.length ≤ 1000000) : szW w ≤ 17000000 := by
  unfold properB at h
  rw [Bool.and_eq_true, Bool.and_eq_true, Nat.ble_eq] at h
  have := sumL_le hb
  have h2 : w.length * 1000000 ≤ 16 * 1000000 := Nat.mul_le_mul_right _ h.1.1
  unfold szW; omega
theorem rjoin_eq (l : List (List Str)) (hb : BJ l) : ref03_Join l = some (specJoin l) := by
  unfold ref03_Join specJoin
  by_cases h1 : 400 < l.length
  · rw [dec_t (show 400 < (l.length : Int) by omega), show Nat.blt 400 l.length = true by rw [Nat.blt_eq]; exact h1]; rfl
  · rw [dec_f (show ¬ 400 < (l.length : Int) by omega), cond_false, show Nat.blt 400 l.length = false by rw [Bool.eq_false_iff, ne_eq, Nat.blt_eq]; exact h1, cond_false]
    have h2 : iter (fun x => ref03_Join_L0 l x) 0 = some (bif l.all properB then .inl () else .inr ([], 3)) := by
      refine scan l [] properB (fun i hi hq => ?_) (fun i hi hq => ?_) ?_
      · unfold ref03_Join_L0
        rw [dec_t (by omega), cond_true, gd_t (inB_t hi), Int.toNat_natCast, rproper_eq _ (hb _ (gD_mem hi)).2, Option.bind_some, hq, Bool.not_true, cond_false, w1 hi (by omega)]
      · unfold ref03_Join_L0
        rw [dec_t (by omega), cond_true, gd_t (inB_t hi), Int.toNat_natCast, rproper_eq _ (hb _ (gD_mem hi)).2, Option.bind_some, hq]; rfl
      · unfold ref03_Join_L0
        rw [dec_f (by omega)]; rfl
    rw [h2, Option.bind_some]
    cases ha : l.all properB with
    | false => rfl
    | true =>
      simp only [cond_true, Sum.elim_inl, Bool.not_true, cond_false]
      have hpr : ∀ k, k < l.length → properB (l.getD k []) = true := fun k hk => List.all_eq_true.1 ha _ (gD_mem hk)
      suffices h : Ok (iter (fun x2 => ref03_Join_L1 l x2.1 x2.2) ([], 0)) (fun e => if 16384 < (txt l).length then e = .inr ([], 4) else e = .inl (txt l)) by
        obtain ⟨e, h3, h4⟩ := h
        rw [h3, Option.bind_some]
        by_cases h5 : 16384 < (txt l).length
        · rw [if_pos h5] at h4; rw [h4, show Nat.blt 16384 (txt l).length = true by rw [Nat.blt_eq]; exact h5]; rfl
        · rw [if_neg h5] at h4; rw [h4, show Nat.blt 16384 (txt l).length = false by rw [Bool.eq_false_iff, ne_eq, Nat.blt_eq]; exact h5]; rfl
      refine Ok.loop (fun x : Str × Int => ∃ k : Nat, x.2 = (k : Int) ∧ k ≤ l.length ∧ x.1 = txt (l.take k) ∧ x.1.length ≤ 16384) (fun x => l.length - x.2.toNat) ⟨0, rfl, by omega, rfl, by simp⟩ ?_
      rintro ⟨s, v⟩ ⟨k, g1, g2, g3, g4⟩
      simp only at g1 g3 g4
      subst g1 g3
      unfold ref03_Join_L1
      simp only
      refine Ok.bif (fun hc => ?_) fun hc => ?_
      · have hc := of_decide_eq_true hc
        have hk : k < l.length := by omega
        have hsz := proper_sz (hpr k hk) (hb _ (gD_mem hk)).2
        refine Ok.gd (inB_t hk) ?_
        rw [Int.toNat_natCast]
        refine Ok.eq (rline_eq _ (by omega)) ?_
        have hj : (joinS (l.getD k [])).length ≤ 17000000 := by have := joinS_le (l.getD k []); unfold szW at hsz; omega
        refine Ok.gd (Nat.ble_eq_true_of_le (by show (joinS (l.getD k [])).length + 1 ≤ _; omega)) ?_
        refine Ok.gd (Nat.ble_eq_true_of_le (by rw [List.length_append]; show _ + ((joinS (l.getD k [])).length + 1) ≤ _; omega)) ?_
        have e : txt (l.take k) ++ (joinS (l.getD k []) ++ [10]) = txt (l.take (k + 1)) := by rw [take_next [] hk, txt_app, txt_one]
        rw [e]
        refine Ok.bif (fun hc => ?_) fun hc => ?_
        · have hc := of_decide_eq_true hc
          have := txt_take l (k + 1)
          exact .ret (by dsimp only; rw [if_pos (by omega)])
        · have hc := of_decide_eq_false hc
          rw [w1 hk (by omega)]
          exact .ret ⟨⟨k + 1, rfl, by omega, rfl, by simp only; omega⟩, by simp only [Int.toNat_natCast]; omega⟩
      · have hc := of_decide_eq_false hc
        have : k = l.length := by omega
        subst this
        rw [List.take_length] at g4 ⊢
        exact .ret (by dsimp only; rw [if_neg (by omega)])
end Go.Proofs.YtmhoomlmmecmdaaDoor
