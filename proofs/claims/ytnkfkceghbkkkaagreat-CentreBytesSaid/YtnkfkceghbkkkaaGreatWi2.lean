/- Numbers as bytes: what is written and what is read, as lists. No condition. -/
import Derived.Test.YtnkfkceghbkkkaaGreatWi1
namespace Go.Proofs.YtnkfkceghbkkkaaGreat
open Go Go.Sq
set_option linter.unusedVariables false
def enc (u : Nat) : List Int := if u < 128 then [(u : Int)] else ((u % 128 + 128 : Nat) : Int) :: enc (u / 128)
termination_by u
decreasing_by omega
theorem enc_lt {u : Nat} (h : u < 128) : enc u = [(u : Int)] := by rw [enc, if_pos h]
theorem enc_ge {u : Nat} (h : 128 ≤ u) : enc u = ((u % 128 + 128 : Nat) : Int) :: enc (u / 128) := by rw [enc, if_neg (by omega)]
def encZ (n : Int) : List Int := enc (zg n)
def encs (l : List Int) : List Int := (l.map encZ).flatten
def bN (b : List Int) (i : Nat) : Nat := (b.getD i 0).toNat
def rdI (b : List Int) (p k u : Nat) : Nat → Int × Int × Int
  | 0 => (0, 0, 3)
  | f + 1 => if b.length ≤ p then (0, 0, 2) else
    if 128 ≤ bN b p then rdI b (p + 1) (k + 1) (u + bN b p % 128 * 2 ^ (7 * k)) f else
    if k = 9 ∧ 1 < bN b p ∨ 0 < k ∧ bN b p = 0 then (0, 0, 3) else (unz (u + bN b p % 128 * 2 ^ (7 * k)), ((p + 1 : Nat) : Int), 0)
def rdZ (b : List Int) (p : Int) : Int × Int × Int := if p < 0 ∨ (b.length : Int) < p then (0, 0, 1) else rdI b p.toNat 0 0 10
def bytesP (b : List Int) : Prop := ∀ x ∈ b, 0 ≤ x ∧ x ≤ 255
theorem enc_bytes : ∀ (f u : Nat), u ≤ f → bytesP (enc u)
  | 0, u, h => by rw [enc_lt (by omega)]; intro x hx; rw [List.mem_singleton.1 hx]; omega
  | f + 1, u, h => by
    by_cases h1 : u < 128
    · rw [enc_lt h1]; intro x hx; rw [List.mem_singleton.1 hx]; omega
    · rw [enc_ge (by omega)]
      intro x hx
      rcases List.mem_cons.1 hx with rfl | hx
      · omega
      · exact enc_bytes f _ (by omega) x hx
theorem encZ_bytes (n : Int) : bytesP (encZ n) := enc_bytes _ _ (Nat.le_refl _)
theorem enc_pos (u : Nat) : 0 < (enc u).length := by
  by_cases h : u < 128
  · rw [enc_lt h]; simp
  · rw [enc_ge (by omega)]; simp
theorem bN_at {b pre post : List Int} {c : Nat} {p : Nat} (hp : p = pre.length) (e : b = pre ++ (c : Int) :: post) : bN b p = c ∧ ¬ b.length ≤ p := by
  subst e hp
  refine ⟨?_, by simp⟩
  unfold bN
  rw [List.getD_eq_getElem?_getD, List.getElem?_append_right (Nat.le_refl _), Nat.sub_self]
  simp
theorem rdI_enc : ∀ (f k v u p : Nat) (b pre post : List Int), f + k = 10 → p = pre.length → b = pre ++ enc v ++ post → v * 2 ^ (7 * k) < 2 ^ 64 → (k = 0 ∨ 0 < v) → rdI b p k u f = (unz (u + v * 2 ^ (7 * k)), ((p + (enc v).length : Nat) : Int), 0)
  | 0, k, v, u, p, b, pre, post, hf, hp, e, hv, h0 => by
    have hk : k = 10 := by omega
    subst hk
    have : v * 2 ^ 70 < 2 ^ 64 := hv
    omega
  | f + 1, k, v, u, p, b, pre, post, hf, hp, e, hv, h0 => by
    by_cases h1 : v < 128
    · rw [enc_lt h1] at e ⊢
      obtain ⟨g1, g2⟩ := bN_at hp (e.trans (by simp) : b = pre ++ (v : Int) :: post)
      unfold rdI
      rw [if_neg g2, g1, if_neg (by omega), if_neg ?_, Nat.mod_eq_of_lt h1]
      · rfl
      · rintro (⟨hk, h⟩ | ⟨h, h'⟩)
        · subst hk
          have : v * 2 ^ 63 < 2 ^ 64 := hv
          omega
        · omega
    · rw [enc_ge (by omega)] at e ⊢
      obtain ⟨g1, g2⟩ := bN_at hp (e.trans (by simp) : b = pre ++ ((v % 128 + 128 : Nat) : Int) :: (enc (v / 128) ++ post))
      unfold rdI
      rw [if_neg g2, g1, if_pos (by omega)]
      have hM : 2 ^ (7 * (k + 1)) = 128 * 2 ^ (7 * k) := by rw [show 7 * (k + 1) = 7 + 7 * k by omega, Nat.pow_add]
      have hv2 : v * 2 ^ (7 * k) = v / 128 * 2 ^ (7 * (k + 1)) + v % 128 * 2 ^ (7 * k) := by
        rw [hM, ← Nat.mul_assoc, ← Nat.add_mul]
        congr 1; omega
      rw [rdI_enc f (k + 1) (v / 128) _ (p + 1) b (pre ++ [((v % 128 + 128 : Nat) : Int)]) post (by omega) (by simp; omega) (by rw [e]; simp) (by rw [hv2] at hv; omega) (by omega)]
      refine Prod.ext ?_ (Prod.ext ?_ rfl)
      · show unz _ = unz _
        congr 1
        rw [show (v % 128 + 128) % 128 = v % 128 by omega, hv2]; omega
      · show ((p + 1 + _ : Nat) : Int) = ((p + _ : Nat) : Int)
        simp; omega
theorem rdZ_enc {b pre post : List Int} {n : Int} (h : -9223372036854775808 ≤ n ∧ n ≤ 9223372036854775807) (e : b = pre ++ encZ n ++ post) : rdZ b (pre.length : Int) = (n, ((pre.length + (encZ n).length : Nat) : Int), 0) := by
  unfold rdZ
  rw [if_neg (by subst e; simp; omega), Int.toNat_natCast, rdI_enc 10 0 (zg n) 0 pre.length b pre post rfl rfl e (by have := zg_lt h; simpa using this) (.inl rfl)]
  rw [Nat.zero_add, Nat.mul_zero, Nat.pow_zero, Nat.mul_one, unz_zg]; rfl
end Go.Proofs.YtnkfkceghbkkkaaGreat
