/- The stable sort: what a stable merge is. No condition. -/
import Derived.Test.YtmleldfhkangbaaSp2
namespace Go.Proofs.Ytmleldfhkangbaa
open Go Go.Sq

/-- An order with ties. -/
structure Pre (c : Int → Int → Int) : Prop where
  refl : ∀ x, c x x = 0
  anti : ∀ x y, c x y < 0 ↔ 0 < c y x
  trans : ∀ x y z, c x y ≤ 0 → c y z ≤ 0 → c x z ≤ 0

def Srt (c : Int → Int → Int) (S : List Int) : Prop := S.Pairwise fun x y => c x y ≤ 0
/-- The same elements, and ties in the same order. -/
def Stab (c : Int → Int → Int) (S T : List Int) : Prop := S.Perm T ∧ ∀ z, (S.filter fun x => decide (c z x = 0)) = T.filter fun x => decide (c z x = 0)

theorem Stab.refl {c : Int → Int → Int} (S : List Int) : Stab c S S := ⟨.refl _, fun _ => rfl⟩
theorem Stab.trans {c : Int → Int → Int} {S T U : List Int} (h : Stab c S T) (k : Stab c T U) : Stab c S U := ⟨h.1.trans k.1, fun z => (h.2 z).trans (k.2 z)⟩
theorem Stab.app {c : Int → Int → Int} {S T U V : List Int} (h : Stab c S T) (k : Stab c U V) : Stab c (S ++ U) (T ++ V) := ⟨h.1.append k.1, fun z => by rw [List.filter_append, List.filter_append, h.2 z, k.2 z]⟩
theorem Stab.len {c : Int → Int → Int} {S T : List Int} (h : Stab c S T) : S.length = T.length := h.1.length_eq
theorem Stab.mem {c : Int → Int → Int} {S T : List Int} (h : Stab c S T) {x : Int} : x ∈ S ↔ x ∈ T := h.1.mem_iff

theorem Pre.le {c : Int → Int → Int} (h : Pre c) {x y : Int} : ¬ c y x < 0 ↔ c x y ≤ 0 := by
  have := h.anti y x; omega
theorem Pre.lt_le {c : Int → Int → Int} (h : Pre c) {x y z : Int} (h1 : c x y < 0) (h2 : c y z ≤ 0) : c x z < 0 := by
  by_cases h3 : c x z < 0
  · exact h3
  · have h4 := h.trans y z x h2 (h.le.1 h3)
    have h5 := (h.anti x y).1 h1
    omega
theorem Pre.le_lt {c : Int → Int → Int} (h : Pre c) {x y z : Int} (h1 : c x y ≤ 0) (h2 : c y z < 0) : c x z < 0 := by
  by_cases h3 : c x z < 0
  · exact h3
  · have h4 := h.trans z x y (h.le.1 h3) h1
    have h5 := (h.anti y z).1 h2
    omega
theorem Pre.zero {c : Int → Int → Int} (h : Pre c) {x y : Int} (h1 : c x y = 0) : c y x = 0 := by
  have a := h.anti x y; have b := h.anti y x; omega
theorem Stab.swap {c : Int → Int → Int} (h : Pre c) {A B : List Int} (hl : ∀ x ∈ A, ∀ y ∈ B, c y x < 0) : Stab c (B ++ A) (A ++ B) := by
  refine ⟨List.perm_append_comm, fun z => ?_⟩
  rw [List.filter_append, List.filter_append]
  by_cases hA : A.filter (fun x => decide (c z x = 0)) = []
  · rw [hA]; simp
  · by_cases hB : B.filter (fun x => decide (c z x = 0)) = []
    · rw [hB]; simp
    · exfalso
      obtain ⟨x, hx⟩ := List.exists_mem_of_ne_nil _ hA
      obtain ⟨y, hy⟩ := List.exists_mem_of_ne_nil _ hB
      simp only [List.mem_filter, decide_eq_true_eq] at hx hy
      have h1 := hl x hx.1 y hy.1
      have h2 := h.le_lt (x := z) (y := y) (z := x) (by omega) h1
      omega
/-- Ties stay in their order. -/
theorem Stab.ties {c : Int → Int → Int} {r : Int → Int → Prop} (h : Pre c) {S T : List Int} (hs : Stab c S T) (ht : T.Pairwise r) : S.Pairwise fun x y => c x y = 0 → r x y := by
  have key : ∀ S : List Int, (∀ z, (S.filter fun x => decide (c z x = 0)).Pairwise r) → S.Pairwise fun x y => c x y = 0 → r x y := by
    intro S
    induction S with
    | nil => intro _; exact .nil
    | cons x S ih =>
      intro hz
      refine .cons (fun y hy hxy => ?_) (ih fun z => ?_)
      · have := hz x
        rw [List.filter_cons_of_pos (by simpa using h.refl x)] at this
        exact (List.pairwise_cons.1 this).1 y (by simp [hy, hxy])
      · have := hz z
        rw [List.filter_cons] at this
        split at this
        · exact (List.pairwise_cons.1 this).2
        · exact this
  exact key S fun z => by rw [hs.2 z]; exact ht.filter _

theorem Srt.app {c : Int → Int → Int} {A B : List Int} : Srt c (A ++ B) ↔ Srt c A ∧ Srt c B ∧ ∀ x ∈ A, ∀ y ∈ B, c x y ≤ 0 := List.pairwise_append

theorem mem_tw {p : Int → Bool} : ∀ {S : List Int} {x : Int}, x ∈ S.takeWhile p → p x = true
  | [], _, h => by cases h
  | y :: S, x, h => by
    rw [List.takeWhile_cons] at h
    split at h
    · rename_i hy
      rcases List.mem_cons.1 h with rfl | h
      · exact hy
      · exact mem_tw h
    · cases h
/-- The parts of an inserted element's list. -/
theorem srt_insR {c : Int → Int → Int} (h : Pre c) {S : List Int} {x : Int} (hs : Srt c S) : Srt c (insR c S x) ∧ Stab c (insR c S x) (S ++ [x]) := by
  have e : S = (S.reverse.dropWhile fun e => decide (c x e < 0)).reverse ++ (S.reverse.takeWhile fun e => decide (c x e < 0)).reverse := by
    rw [← List.reverse_append, List.takeWhile_append_dropWhile, List.reverse_reverse]
  unfold insR
  have hB : ∀ y ∈ (S.reverse.takeWhile fun e => decide (c x e < 0)).reverse, c x y < 0 := by
    intro y hy
    rw [List.mem_reverse] at hy
    simpa using mem_tw hy
  have hA : ∀ y, (S.reverse.dropWhile fun e => decide (c x e < 0)).head? = some y → ¬ c x y < 0 := by
    intro y hy
    have := List.head?_dropWhile_not (fun e => decide (c x e < 0)) S.reverse
    rw [hy] at this
    simpa using this
  have hA' : ∀ y, (S.reverse.dropWhile fun e => decide (c x e < 0)).reverse.getLast? = some y → ¬ c x y < 0 := by
    intro y hy; rw [List.getLast?_reverse] at hy; exact hA y hy
  generalize (S.reverse.dropWhile fun e => decide (c x e < 0)).reverse = A at *
  generalize (S.reverse.takeWhile fun e => decide (c x e < 0)).reverse = B at *
  subst e
  obtain ⟨s1, s2, s3⟩ := Srt.app.1 hs
  have hA2 : ∀ y ∈ A, c y x ≤ 0 := by
    intro y hy
    rcases List.eq_nil_or_concat A with rfl | ⟨T, e, rfl⟩
    · cases hy
    · rw [List.concat_eq_append] at *
      have h1 := hA' e (by simp)
      have h2 := h.le.1 h1
      rcases List.mem_append.1 hy with h3 | h3
      · exact h.trans _ _ _ ((Srt.app.1 s1).2.2 y h3 e (by simp)) h2
      · rw [List.mem_singleton.1 h3]; exact h2
  constructor
  · refine Srt.app.2 ⟨s1, .cons (fun y hy => Int.le_of_lt (hB y hy)) s2, fun y hy w hw => ?_⟩
    rcases List.mem_cons.1 hw with rfl | hw
    · exact hA2 y hy
    · exact s3 y hy w hw
  · rw [List.append_assoc]
    exact (Stab.refl A).app (Stab.swap h (A := B) (B := [x]) fun y hy w hw => by rw [List.mem_singleton.1 hw]; exact hB y hy)
theorem srt_isort {c : Int → Int → Int} (h : Pre c) (S : List Int) : Srt c (isort c S) ∧ Stab c (isort c S) S := by
  have key : ∀ (S T A : List Int), Srt c A → Stab c A T → Srt c (S.foldl (insR c) A) ∧ Stab c (S.foldl (insR c) A) (T ++ S) := by
    intro S
    induction S with
    | nil => intro T A h1 h2; simpa using ⟨h1, h2⟩
    | cons x S ih =>
      intro T A h1 h2
      obtain ⟨k1, k2⟩ := srt_insR (x := x) h h1
      have := ih (T ++ [x]) (insR c A x) k1 (k2.trans (h2.app (Stab.refl [x])))
      simpa using this
  simpa [isort] using key S [] [] .nil (.refl _)

theorem getD_app (X Y : List Int) (k : Nat) : (X ++ Y).getD k 0 = if k < X.length then X.getD k 0 else Y.getD (k - X.length) 0 := by
  rw [List.getD_eq_getElem?_getD, List.getD_eq_getElem?_getD, List.getD_eq_getElem?_getD, List.getElem?_append]
  split <;> rfl
theorem ext_getD {X Y : List Int} (h : X.length = Y.length) (hk : ∀ k, X.getD k 0 = Y.getD k 0) : X = Y := by
  refine List.ext_getElem h fun k h1 h2 => ?_
  have := hk k
  rwa [List.getD_eq_getElem?_getD, List.getD_eq_getElem?_getD, List.getElem?_eq_getElem h1, List.getElem?_eq_getElem h2] at this

theorem rotate_list {cmp : Int × Int × Unit → Option Int} {X U V Y : List Int} (hU : U ≠ []) (hV : V ≠ []) (hl : X.length + U.length + V.length + Y.length ≤ 2305843009213693952) :
    slices_rotateCmpFunc_int (X.length : Int) ((X.length + U.length : Nat) : Int) ((X.length + U.length + V.length : Nat) : Int) cmp (X ++ (U ++ (V ++ Y))) = some (X ++ (V ++ (U ++ Y))) := by
  have h1 := List.length_pos_iff.2 hU
  have h2 := List.length_pos_iff.2 hV
  obtain ⟨r, q1, q2, q3⟩ := rotate_eq (a := X.length) (m := X.length + U.length) (b := X.length + U.length + V.length) (cmp := cmp) (l := X ++ (U ++ (V ++ Y))) (by omega) (by omega) (by simp; omega) (by simp; omega)
  rw [q1]
  congr 1
  refine ext_getD (by rw [q2]; simp; omega) fun k => ?_
  rw [q3]
  unfold rotated
  simp only [getD_app]
  repeat' split
  all_goals first | omega | (congr 1; omega) | rfl
end Go.Proofs.Ytmleldfhkangbaa
