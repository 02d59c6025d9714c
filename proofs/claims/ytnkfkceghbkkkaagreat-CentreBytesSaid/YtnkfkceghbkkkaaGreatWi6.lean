/- Records as bytes: what both readers make of bytes. No condition. -/
import Derived.Test.YtnkfkceghbkkkaaGreatWi5
namespace Go.Proofs.YtnkfkceghbkkkaaGreat
open Go Go.Sq
set_option linter.unusedVariables false
abbrev Rcd := Int × List Int × (Int × Int × Int × Int × Int × List (Int × Bool) × Int) × List UInt8 × Int × Int
theorem num_out {b : List Int} {p : Nat} (h : b.length < p) (ok : Bool) : num b p ok = (0, p, false) := by
  unfold num
  cases ok with
  | false => rfl
  | true =>
    have : rdI b p 0 0 10 = (0, 0, 2) := by unfold rdI; rw [if_pos (by omega)]
    rw [this, cond_true, if_neg (by decide)]
theorem wnum {b : List Int} (hb : bytesP b) (hl : b.length ≤ 1000000) (p : Nat) (f : Bool) : centre_reader_number b (p : Int) f = some ((num b p (!f)).1, b, ((num b p (!f)).2.1 : Int), !(num b p (!f)).2.2) := by
  by_cases h : p ≤ b.length
  · exact wnum_eq hb hl h f
  · rw [num_out (by omega)]
    unfold centre_reader_number wire_Int
    rw [dec_f (by omega), cond_false, dec_t (by omega)]
    cases f <;> rfl
theorem rnum {b : List Int} (hb : bytesP b) (hl : b.length ≤ 1000000) (p : Nat) (f : Bool) : ref41_taker_one b (p : Int) f = some ((num b p f).1, b, ((num b p f).2.1 : Int), (num b p f).2.2) := by
  by_cases h : p ≤ b.length
  · exact rnum_eq hb hl h f
  · rw [num_out (by omega)]
    unfold ref41_taker_one ref02_Int
    rw [dec_f (p := (p : Int) < 0) (by omega), cond_false, dec_t (by omega)]
    cases f <;> rfl
theorem wcnt {b : List Int} (hb : bytesP b) (hl : b.length ≤ 1000000) (m : Int) (p : Nat) (f : Bool) : centre_reader_count m b (p : Int) f = some ((cnt b m p (!f)).1, b, ((cnt b m p (!f)).2.1 : Int), !(cnt b m p (!f)).2.2) := by
  unfold centre_reader_count cnt
  rw [wnum hb hl, Option.bind_some, or2]
  by_cases h : (num b p !f).1 < 0 ∨ m < (num b p !f).1
  · simp only [dec_t h, cond_true, if_pos h]; rfl
  · simp only [dec_f h, cond_false, if_neg h]
theorem rcnt {b : List Int} (hb : bytesP b) (hl : b.length ≤ 1000000) (m : Int) (p : Nat) (f : Bool) : ref41_taker_some m b (p : Int) f = some ((cnt b m p f).1, b, ((cnt b m p f).2.1 : Int), (cnt b m p f).2.2) := by
  unfold ref41_taker_some cnt
  rw [rnum hb hl, Option.bind_some, or2]
  by_cases h : (num b p f).1 < 0 ∨ m < (num b p f).1
  · simp only [dec_t h, cond_true, if_pos h]
  · simp only [dec_f h, cond_false, if_neg h]
def nums (b : List Int) : Nat → Nat → Bool → List Int → Nat × Bool × List Int
  | 0, p, ok, l => (p, ok, l)
  | n + 1, p, ok, l => nums b n (num b p ok).2.1 (num b p ok).2.2 (l ++ [(num b p ok).1])
def hops (b : List Int) : Nat → Nat → Bool → List (Int × Bool) → Nat × Bool × List (Int × Bool)
  | 0, p, ok, l => (p, ok, l)
  | n + 1, p, ok, l => hops b n (cnt b 1 (num b p ok).2.1 (num b p ok).2.2).2.1 (cnt b 1 (num b p ok).2.1 (num b p ok).2.2).2.2 (l ++ [((num b p ok).1, decide ((cnt b 1 (num b p ok).2.1 (num b p ok).2.2).1 = 1))])
section
variable {b : List Int} (hb : bytesP b) (hl : b.length ≤ 1000000)
include hb hl
theorem wvals_go (N : Nat) (hN : N ≤ 100) (c : List Int × Int × Bool) : ∀ (n j p : Nat) (f : Bool) (l : List Int), j + n = N → l.length = j →
    iter (fun x => centre_Decode_L0 ((N : Int), c) x.1 x.2.1 x.2.2.1 x.2.2.2.1 x.2.2.2.2) ((j : Int), b, (p : Int), f, l) = some (b, ((nums b n p (!f) l).1 : Int), !(nums b n p (!f) l).2.1, (nums b n p (!f) l).2.2)
  | 0, j, p, f, l, hj, hll => by
    have h1 : centre_Decode_L0 ((N : Int), c) (j : Int) b (p : Int) f l = some (.inr (b, (p : Int), f, l)) := by
      unfold centre_Decode_L0; rw [dec_f (by (try simp only); omega), cond_false]
    rw [iter_eq]; simp only [h1, nums, Bool.not_not]
  | n + 1, j, p, f, l, hj, hll => by
    have h1 : centre_Decode_L0 ((N : Int), c) (j : Int) b (p : Int) f l = some (.inl (((j + 1 : Nat) : Int), b, ((num b p (!f)).2.1 : Int), !(num b p (!f)).2.2, l ++ [(num b p (!f)).1])) := by
      unfold centre_Decode_L0
      rw [dec_t (by (try simp only); omega), cond_true, wnum hb hl, Option.bind_some, fits_t (by omega), gd_tt, show wi64 ((j : Int) + 1) = ((j + 1 : Nat) : Int) by rw [wi (by omega)]; omega]
    rw [iter_eq]; simp only [h1]
    rw [wvals_go N hN c n (j + 1) _ _ _ (by omega) (by simp; omega)]
    simp only [nums, Bool.not_not]
theorem whops_go (N : Nat) (hN : N ≤ 100) (c : List Int × Int × Bool) (q : List Int) : ∀ (n j p : Nat) (f : Bool) (l : List (Int × Bool)), j + n = N → l.length = j →
    iter (fun x2 => centre_Decode_L1 ((N : Int), c) x2.1 x2.2.1 x2.2.2.1 x2.2.2.2.1 x2.2.2.2.2.1 x2.2.2.2.2.2) ((j : Int), b, (p : Int), f, q, l) = some (b, ((hops b n p (!f) l).1 : Int), !(hops b n p (!f) l).2.1, q, (hops b n p (!f) l).2.2)
  | 0, j, p, f, l, hj, hll => by
    have h1 : centre_Decode_L1 ((N : Int), c) (j : Int) b (p : Int) f q l = some (.inr (b, (p : Int), f, q, l)) := by
      unfold centre_Decode_L1; rw [dec_f (by (try simp only); omega), cond_false]
    rw [iter_eq]; simp only [h1, hops, Bool.not_not]
  | n + 1, j, p, f, l, hj, hll => by
    have h1 : centre_Decode_L1 ((N : Int), c) (j : Int) b (p : Int) f q l = some (.inl (((j + 1 : Nat) : Int), b, ((cnt b 1 (num b p (!f)).2.1 (num b p (!f)).2.2).2.1 : Int), !(cnt b 1 (num b p (!f)).2.1 (num b p (!f)).2.2).2.2, q, l ++ [((num b p (!f)).1, decide ((cnt b 1 (num b p (!f)).2.1 (num b p (!f)).2.2).1 = 1))])) := by
      unfold centre_Decode_L1
      rw [dec_t (by (try simp only); omega), cond_true, wnum hb hl, Option.bind_some]
      simp only
      rw [wcnt hb hl, Option.bind_some, fits_t (by omega), gd_tt, show wi64 ((j : Int) + 1) = ((j + 1 : Nat) : Int) by rw [wi (by omega)]; omega]
      simp only [Bool.not_not]
    rw [iter_eq]; simp only [h1]
    rw [whops_go N hN c q n (j + 1) _ _ _ (by omega) (by simp; omega)]
    simp only [hops, Bool.not_not]
theorem rvals_go : ∀ (n p : Nat) (f : Bool) (l : List Int), n + l.length ≤ 100 →
    iter (fun x => ref41_Decode_L0 x.1 x.2.1 x.2.2.1 x.2.2.2.1 x.2.2.2.2) ((n : Int), b, (p : Int), f, l) = some (b, ((nums b n p f l).1 : Int), (nums b n p f l).2.1, (nums b n p f l).2.2)
  | 0, p, f, l, hj => by
    have h1 : ref41_Decode_L0 ((0 : Nat) : Int) b (p : Int) f l = some (.inr (b, (p : Int), f, l)) := by
      unfold ref41_Decode_L0; rw [dec_f (by omega), cond_false]
    rw [iter_eq]; simp only [h1, nums]
  | n + 1, p, f, l, hj => by
    have h1 : ref41_Decode_L0 ((n + 1 : Nat) : Int) b (p : Int) f l = some (.inl ((n : Int), b, ((num b p f).2.1 : Int), (num b p f).2.2, l ++ [(num b p f).1])) := by
      unfold ref41_Decode_L0
      rw [dec_t (by omega), cond_true, rnum hb hl, Option.bind_some, fits_t (by omega), gd_tt, show wi64 (((n + 1 : Nat) : Int) - 1) = (n : Int) by rw [wi (by omega)]; omega]
    rw [iter_eq]; simp only [h1]
    rw [rvals_go n _ _ _ (by simp; omega)]
    simp only [nums]
theorem rhops_go (q : List Int) : ∀ (n p : Nat) (f : Bool) (l : List (Int × Bool)), n + l.length ≤ 100 →
    iter (fun x2 => ref41_Decode_L1 x2.1 x2.2.1 x2.2.2.1 x2.2.2.2.1 x2.2.2.2.2.1 x2.2.2.2.2.2) ((n : Int), b, (p : Int), f, q, l) = some (b, ((hops b n p f l).1 : Int), (hops b n p f l).2.1, q, (hops b n p f l).2.2)
  | 0, p, f, l, hj => by
    have h1 : ref41_Decode_L1 ((0 : Nat) : Int) b (p : Int) f q l = some (.inr (b, (p : Int), f, q, l)) := by
      unfold ref41_Decode_L1; rw [dec_f (by omega), cond_false]
    rw [iter_eq]; simp only [h1, hops]
  | n + 1, p, f, l, hj => by
    have h1 : ref41_Decode_L1 ((n + 1 : Nat) : Int) b (p : Int) f q l = some (.inl ((n : Int), b, ((cnt b 1 (num b p f).2.1 (num b p f).2.2).2.1 : Int), (cnt b 1 (num b p f).2.1 (num b p f).2.2).2.2, q, l ++ [((num b p f).1, decide ((cnt b 1 (num b p f).2.1 (num b p f).2.2).1 = 1))])) := by
      unfold ref41_Decode_L1
      rw [dec_t (by omega), cond_true, rnum hb hl, Option.bind_some]
      simp only
      rw [rcnt hb hl, Option.bind_some, fits_t (by omega), gd_tt, show wi64 (((n + 1 : Nat) : Int) - 1) = (n : Int) by rw [wi (by omega)]; omega]
    rw [iter_eq]; simp only [h1]
    rw [rhops_go q n _ _ _ (by simp; omega)]
    simp only [hops]
theorem wvals (p0 : Nat) (o0 : Bool) (c : List Int × Int × Bool) (p : Nat) (f : Bool) : iter (fun x => centre_Decode_L0 ((cnt b 21 p0 o0).1, c) x.1 x.2.1 x.2.2.1 x.2.2.2.1 x.2.2.2.2) (0, b, (p : Int), f, []) = some (b, ((nums b (cnt b 21 p0 o0).1.toNat p (!f) []).1 : Int), !(nums b (cnt b 21 p0 o0).1.toNat p (!f) []).2.1, (nums b (cnt b 21 p0 o0).1.toNat p (!f) []).2.2) := by
  obtain ⟨h1, h2⟩ := cnt_in (b := b) (m := 21) (by omega) (p := p0) (ok := o0)
  have e : (cnt b 21 p0 o0).1 = ((cnt b 21 p0 o0).1.toNat : Int) := by omega
  generalize (cnt b 21 p0 o0).1 = z at h1 h2 e ⊢
  obtain ⟨N, rfl⟩ : ∃ N : Nat, z = (N : Int) := ⟨_, e⟩
  rw [Int.toNat_natCast]
  exact wvals_go hb hl N (by omega) c N 0 p f [] (by omega) rfl
theorem whops (p0 : Nat) (o0 : Bool) (c : List Int × Int × Bool) (q : List Int) (p : Nat) (f : Bool) : iter (fun x2 => centre_Decode_L1 ((cnt b 32 p0 o0).1, c) x2.1 x2.2.1 x2.2.2.1 x2.2.2.2.1 x2.2.2.2.2.1 x2.2.2.2.2.2) (0, b, (p : Int), f, q, []) = some (b, ((hops b (cnt b 32 p0 o0).1.toNat p (!f) []).1 : Int), !(hops b (cnt b 32 p0 o0).1.toNat p (!f) []).2.1, q, (hops b (cnt b 32 p0 o0).1.toNat p (!f) []).2.2) := by
  obtain ⟨h1, h2⟩ := cnt_in (b := b) (m := 32) (by omega) (p := p0) (ok := o0)
  have e : (cnt b 32 p0 o0).1 = ((cnt b 32 p0 o0).1.toNat : Int) := by omega
  generalize (cnt b 32 p0 o0).1 = z at h1 h2 e ⊢
  obtain ⟨N, rfl⟩ : ∃ N : Nat, z = (N : Int) := ⟨_, e⟩
  rw [Int.toNat_natCast]
  exact whops_go hb hl N (by omega) c q N 0 p f [] (by omega) rfl
theorem rvals (p0 : Nat) (o0 : Bool) (p : Nat) (f : Bool) : iter (fun x => ref41_Decode_L0 x.1 x.2.1 x.2.2.1 x.2.2.2.1 x.2.2.2.2) ((cnt b 21 p0 o0).1, b, (p : Int), f, []) = some (b, ((nums b (cnt b 21 p0 o0).1.toNat p f []).1 : Int), (nums b (cnt b 21 p0 o0).1.toNat p f []).2.1, (nums b (cnt b 21 p0 o0).1.toNat p f []).2.2) := by
  obtain ⟨h1, h2⟩ := cnt_in (b := b) (m := 21) (by omega) (p := p0) (ok := o0)
  have e : (cnt b 21 p0 o0).1 = ((cnt b 21 p0 o0).1.toNat : Int) := by omega
  generalize (cnt b 21 p0 o0).1 = z at h1 h2 e ⊢
  obtain ⟨N, rfl⟩ : ∃ N : Nat, z = (N : Int) := ⟨_, e⟩
  rw [Int.toNat_natCast]
  exact rvals_go hb hl N p f [] (by simp; omega)
theorem rhops (p0 : Nat) (o0 : Bool) (q : List Int) (p : Nat) (f : Bool) : iter (fun x2 => ref41_Decode_L1 x2.1 x2.2.1 x2.2.2.1 x2.2.2.2.1 x2.2.2.2.2.1 x2.2.2.2.2.2) ((cnt b 32 p0 o0).1, b, (p : Int), f, q, []) = some (b, ((hops b (cnt b 32 p0 o0).1.toNat p f []).1 : Int), (hops b (cnt b 32 p0 o0).1.toNat p f []).2.1, q, (hops b (cnt b 32 p0 o0).1.toNat p f []).2.2) := by
  obtain ⟨h1, h2⟩ := cnt_in (b := b) (m := 32) (by omega) (p := p0) (ok := o0)
  have e : (cnt b 32 p0 o0).1 = ((cnt b 32 p0 o0).1.toNat : Int) := by omega
  generalize (cnt b 32 p0 o0).1 = z at h1 h2 e ⊢
  obtain ⟨N, rfl⟩ : ∃ N : Nat, z = (N : Int) := ⟨_, e⟩
  rw [Int.toNat_natCast]
  exact rhops_go hb hl q N p f [] (by simp; omega)
end
theorem nums_le {b : List Int} : ∀ (n p : Nat) (ok : Bool) (l : List Int), p ≤ b.length → (nums b n p ok l).1 ≤ b.length
  | 0, p, ok, l, h => h
  | n + 1, p, ok, l, h => nums_le n _ _ _ (num_le h)
theorem hops_le {b : List Int} : ∀ (n p : Nat) (ok : Bool) (l : List (Int × Bool)), p ≤ b.length → (hops b n p ok l).1 ≤ b.length
  | 0, p, ok, l, h => h
  | n + 1, p, ok, l, h => hops_le n _ _ _ (cnt_le (num_le h))
end Go.Proofs.YtnkfkceghbkkkaaGreat
