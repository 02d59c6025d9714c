/- Numbers as bytes: the reference's reading; a reader's numbers. No condition. -/
import Derived.Test.YtnkfkceghbkkkaaGreatWi4
namespace Go.Proofs.YtnkfkceghbkkkaaGreat
open Go Go.Sq
set_option linter.unusedVariables false
theorem unf_eq {u : Nat} (h : u < 18446744073709551616) : ref02_unfolded (u : Int) = some (unz u) := by
  unfold ref02_unfolded unz
  rw [show Int.tmod (u : Int) 2 = ((u % 2 : Nat) : Int) from rfl, show Int.tdiv (u : Int) 2 = ((u / 2 : Nat) : Int) from rfl, wu_nat (by omega)]
  by_cases h0 : u % 2 = 0
  · rw [dec_t (by omega), cond_true, if_pos h0, wi (by omega)]
  · rw [dec_f (by omega), cond_false, if_neg h0, wi (n := ((u / 2 : Nat) : Int)) (by omega), wi (n := 0 - ((u / 2 : Nat) : Int)) (by omega), wi (by omega)]
    congr 1; omega
theorem rint_loop {b : List Int} (hb : bytesP b) (hl : b.length ≤ 1000000) (p : Nat) (hp : p ≤ b.length) : ∀ (f k u : Nat), f + k = 10 → (k ≤ 9 → u < 2 ^ (7 * k)) → ∀ (x : Int), (k ≤ 9 → x = (u : Int)) →
    (iter (fun x => ref02_Int_L0 b (p : Int) x.1 x.2) (x, (k : Int))).bind fin3 = some (rdI b (p + k) k u f)
  | 0, k, u, hf, hu, x, hx => by
    have hk : k = 10 := by omega
    subst hk
    have h1 : ref02_Int_L0 b (p : Int) x ((10 : Nat) : Int) = some (.inr (.inl ())) := by
      unfold ref02_Int_L0; rw [dec_f (by omega), cond_false]
    rw [iter_eq]
    simp only [h1]; rfl
  | f + 1, k, u, hf, hu, x, hx => by
    have hk : k ≤ 9 := by omega
    have hu := hu hk
    have hx := hx hk
    subst hx
    have ea : wi64 ((p : Int) + (k : Int)) = ((p + k : Nat) : Int) := by rw [wi (by omega)]; omega
    unfold rdI
    by_cases hlen : b.length ≤ p + k
    · rw [if_pos hlen]
      have h1 : ref02_Int_L0 b (p : Int) (u : Int) (k : Int) = some (.inr (.inr (0, 0, 2))) := by
        unfold ref02_Int_L0; rw [dec_t (by omega), cond_true, ea, dec_t (by omega), cond_true]
      rw [iter_eq]
      simp only [h1]; rfl
    · rw [if_neg hlen]
      obtain ⟨eb, hc⟩ := byte_at hb (show p + k < b.length by omega)
      generalize bN b (p + k) = c at eb hc ⊢
      have e7 : wi64 (7 * (k : Int)) = 7 * (k : Int) := wi (by omega)
      have e127 : wu64 (Int.tmod (c : Int) 128) = ((c % 128 : Nat) : Int) := by rw [show Int.tmod (c : Int) 128 = ((c % 128 : Nat) : Int) from rfl]; exact wu_nat (by omega)
      have hm : c % 128 < 128 := by omega
      have start : ∀ Z, ref02_Int_L0 b (p : Int) (u : Int) (k : Int) = Z ↔ ((bif decide ((k : Int) = 9) then some (decide (1 < (c : Int))) else some false).bind fun s2 : Bool =>
          bif s2 then some (.inr (.inr (0, 0, 3))) else
          bif decide ((c : Int) < 128) then ((bif decide ((c : Int) = 0) then some (decide (0 < (k : Int))) else some false).bind fun s3 : Bool =>
            bif s3 then some (.inr (.inr (0, 0, 3))) else
              (ref02_unfolded (wu64 ((u : Int) + (wu64 (((c % 128 : Nat) : Int) * ((2 ^ (7 * k) : Nat) : Int)))))).bind fun r => some (.inr (.inr (r, wi64 ((wi64 ((p : Int) + (k : Int))) + 1), 0))))
          else some (.inl (wu64 ((u : Int) + (wu64 (((c % 128 : Nat) : Int) * ((2 ^ (7 * k) : Nat) : Int)))), wi64 ((k : Int) + 1)))) = Z := by
        intro Z
        unfold ref02_Int_L0
        rw [dec_t (by omega), cond_true, ea, dec_f (by omega), cond_false, inB_t (by omega), gd_tt, Int.toNat_natCast, eb, sh7 hk, e127, e7, dec_f (p := 7 * (k : Int) < 0) (by omega)]
        simp only [Bool.not_false, gd_tt]
      by_cases h128 : 128 ≤ c
      · rw [if_pos h128]
        by_cases h9 : k = 9
        · have h1 : ref02_Int_L0 b (p : Int) (u : Int) (k : Int) = some (.inr (.inr (0, 0, 3))) := by
            refine (start _).2 ?_
            rw [dec_t (by omega), cond_true, dec_t (by omega)]; rfl
          rw [iter_eq]
          simp only [h1]
          have : f = 0 := by omega
          subst this; rfl
        · obtain ⟨g1, g2, g3⟩ := u64S hk hu hm (by omega)
          have h1 : ref02_Int_L0 b (p : Int) (u : Int) (k : Int) = some (.inl (((u + c % 128 * 2 ^ (7 * k) : Nat) : Int), ((k + 1 : Nat) : Int))) := by
            refine (start _).2 ?_
            rw [dec_f (by omega), cond_false, Option.bind_some, cond_false, dec_f (by omega), cond_false, ← Int.natCast_mul, wu_nat g1, ← Int.natCast_add, wu_nat g3, show wi64 ((k : Int) + 1) = ((k + 1 : Nat) : Int) by rw [wi (by omega)]; omega]
          rw [iter_eq]
          simp only [h1]
          exact rint_loop hb hl p hp f (k + 1) _ (by omega) (fun h => uS hu hm) _ (fun h => rfl)
      · rw [if_neg h128]
        by_cases hbad : k = 9 ∧ 1 < c ∨ 0 < k ∧ c = 0
        · rw [if_pos hbad]
          have h1 : ref02_Int_L0 b (p : Int) (u : Int) (k : Int) = some (.inr (.inr (0, 0, 3))) := by
            refine (start _).2 ?_
            by_cases h91 : k = 9 ∧ 1 < c
            · rw [dec_t (by omega), cond_true, dec_t (by omega)]; rfl
            · have : (bif decide ((k : Int) = 9) then some (decide (1 < (c : Int))) else some false) = some false := by
                by_cases h9 : k = 9
                · rw [dec_t (by omega), cond_true, dec_f (by omega)]
                · rw [dec_f (by omega), cond_false]
              rw [this, Option.bind_some, cond_false, dec_t (by omega), cond_true, dec_t (by omega), cond_true, dec_t (by omega)]; rfl
          rw [iter_eq]
          simp only [h1]; rfl
        · rw [if_neg hbad]
          obtain ⟨g1, g2, g3⟩ := u64S hk hu hm (by omega)
          have h1 : ref02_Int_L0 b (p : Int) (u : Int) (k : Int) = some (.inr (.inr (unz (u + c % 128 * 2 ^ (7 * k)), ((p + k + 1 : Nat) : Int), 0))) := by
            refine (start _).2 ?_
            have : (bif decide ((k : Int) = 9) then some (decide (1 < (c : Int))) else some false) = some false := by
              by_cases h9 : k = 9
              · rw [dec_t (by omega), cond_true, dec_f (by omega)]
              · rw [dec_f (by omega), cond_false]
            rw [this, Option.bind_some, cond_false, dec_t (by omega), cond_true]
            have : (bif decide ((c : Int) = 0) then some (decide (0 < (k : Int))) else some false) = some false := by
              by_cases h9 : c = 0
              · rw [dec_t (by omega), cond_true, dec_f (by omega)]
              · rw [dec_f (by omega), cond_false]
            rw [this, Option.bind_some, cond_false, ← Int.natCast_mul, wu_nat g1, ← Int.natCast_add, wu_nat g3, unf_eq g3, Option.bind_some, ea, show wi64 (((p + k : Nat) : Int) + 1) = ((p + k + 1 : Nat) : Int) by rw [wi (by omega)]; omega]
          rw [iter_eq]
          simp only [h1]; rfl
theorem rint_eq {b : List Int} (hb : bytesP b) (hl : b.length ≤ 1000000) {p : Nat} (hp : p ≤ b.length) : ref02_Int b (p : Int) = some (rdI b p 0 0 10) := by
  unfold ref02_Int
  rw [dec_f (by omega), cond_false, dec_f (by omega), Option.bind_some, cond_false]
  exact rint_loop hb hl p hp 10 0 0 rfl (fun _ => by simp) 0 (fun _ => rfl)
theorem rdI_next (b : List Int) : ∀ (f p k u : Nat), p ≤ b.length → ∃ q : Nat, (rdI b p k u f).2.1 = (q : Int) ∧ q ≤ b.length
  | 0, p, k, u, h => ⟨0, rfl, by omega⟩
  | f + 1, p, k, u, h => by
    unfold rdI
    by_cases h1 : b.length ≤ p
    · rw [if_pos h1]; exact ⟨0, rfl, by omega⟩
    · rw [if_neg h1]
      split
      · exact rdI_next b f _ _ _ (by omega)
      · split
        · exact ⟨0, rfl, by omega⟩
        · exact ⟨p + 1, rfl, by omega⟩
theorem rdI_i64 (b : List Int) : ∀ (f p k u : Nat), f + k = 10 → (k ≤ 9 → u < 2 ^ (7 * k)) → bytesP b → -9223372036854775808 ≤ (rdI b p k u f).1 ∧ (rdI b p k u f).1 ≤ 9223372036854775807
  | 0, p, k, u, h, hu, hb => by unfold rdI; simp only; omega
  | f + 1, p, k, u, h, hu, hb => by
    have hk : k ≤ 9 := by omega
    have hu := hu hk
    unfold rdI
    by_cases h1 : b.length ≤ p
    · rw [if_pos h1]; simp only; omega
    · rw [if_neg h1]
      have hm : bN b p % 128 < 128 := by omega
      split
      · exact rdI_i64 b f _ _ _ (by omega) (fun h => uS hu hm) hb
      · split
        · simp only; omega
        · rename_i h128 hbad
          exact unz_i64 (u64S hk hu hm (by omega)).2.2
def num (b : List Int) (p : Nat) (ok : Bool) : Int × Nat × Bool := bif ok then (if (rdI b p 0 0 10).2.2 = 0 then ((rdI b p 0 0 10).1, (rdI b p 0 0 10).2.1.toNat, true) else (0, p, false)) else (0, p, false)
def cnt (b : List Int) (m : Int) (p : Nat) (ok : Bool) : Int × Nat × Bool := if (num b p ok).1 < 0 ∨ m < (num b p ok).1 then (0, (num b p ok).2.1, false) else num b p ok
theorem num_le {b : List Int} {p : Nat} {ok : Bool} (hp : p ≤ b.length) : (num b p ok).2.1 ≤ b.length := by
  unfold num
  cases ok with
  | false => exact hp
  | true =>
    obtain ⟨q, h1, h2⟩ := rdI_next b 10 p 0 0 hp
    rw [cond_true]
    split
    · simp only; omega
    · exact hp
theorem cnt_le {b : List Int} {m : Int} {p : Nat} {ok : Bool} (hp : p ≤ b.length) : (cnt b m p ok).2.1 ≤ b.length := by
  unfold cnt; split <;> exact num_le hp
theorem cnt_in {b : List Int} {m : Int} (hm : 0 ≤ m) {p : Nat} {ok : Bool} : 0 ≤ (cnt b m p ok).1 ∧ (cnt b m p ok).1 ≤ m := by
  unfold cnt; split
  · simp only; omega
  · rename_i h; simp only [not_or] at h; omega
theorem wnum_eq {b : List Int} (hb : bytesP b) (hl : b.length ≤ 1000000) {p : Nat} (hp : p ≤ b.length) (f : Bool) : centre_reader_number b (p : Int) f = some ((num b p (!f)).1, b, ((num b p (!f)).2.1 : Int), !(num b p (!f)).2.2) := by
  obtain ⟨q, h1, h2⟩ := rdI_next b 10 p 0 0 hp
  unfold centre_reader_number num
  rw [wint_eq hb hl hp, Option.bind_some]
  cases f with
  | true => rfl
  | false =>
    by_cases h : (rdI b p 0 0 10).2.2 = 0
    · rw [dec_t h]
      simp only [Bool.not_false, cond_true, if_pos h]
      rw [h1, Int.toNat_natCast]; rfl
    · rw [dec_f h]
      simp only [Bool.not_false, cond_true, if_neg h]; rfl
theorem rnum_eq {b : List Int} (hb : bytesP b) (hl : b.length ≤ 1000000) {p : Nat} (hp : p ≤ b.length) (f : Bool) : ref41_taker_one b (p : Int) f = some ((num b p f).1, b, ((num b p f).2.1 : Int), (num b p f).2.2) := by
  obtain ⟨q, h1, h2⟩ := rdI_next b 10 p 0 0 hp
  unfold ref41_taker_one num
  cases f with
  | false => rfl
  | true =>
    rw [rint_eq hb hl hp]
    by_cases h : (rdI b p 0 0 10).2.2 = 0
    · simp only [Option.bind_some, Bool.not_true, cond_false, dec_t h, cond_true, if_pos h]
      rw [h1, Int.toNat_natCast]
    · simp only [Option.bind_some, Bool.not_true, cond_false, dec_f h, Bool.not_false, cond_true, if_neg h]
theorem or2 {p q : Prop} [Decidable p] [Decidable q] {A : Type} (k : Bool → Option A) : ((bif decide p then some true else some (decide q)).bind k) = k (decide (p ∨ q)) := by
  by_cases h : p
  · rw [dec_t h, dec_t (p := p ∨ q) (Or.inl h)]; rfl
  · rw [dec_f h, cond_false, Option.bind_some]; congr 1; exact decide_eq_decide.2 ⟨.inr, fun h' => h'.resolve_left h⟩
theorem wcnt_eq {b : List Int} (hb : bytesP b) (hl : b.length ≤ 1000000) {p : Nat} (hp : p ≤ b.length) (f : Bool) (m : Int) : centre_reader_count m b (p : Int) f = some ((cnt b m p (!f)).1, b, ((cnt b m p (!f)).2.1 : Int), !(cnt b m p (!f)).2.2) := by
  unfold centre_reader_count cnt
  rw [wnum_eq hb hl hp, Option.bind_some, or2]
  by_cases h : (num b p !f).1 < 0 ∨ m < (num b p !f).1
  · simp only [dec_t h, cond_true, if_pos h]; rfl
  · simp only [dec_f h, cond_false, if_neg h]
theorem rcnt_eq {b : List Int} (hb : bytesP b) (hl : b.length ≤ 1000000) {p : Nat} (hp : p ≤ b.length) (f : Bool) (m : Int) : ref41_taker_some m b (p : Int) f = some ((cnt b m p f).1, b, ((cnt b m p f).2.1 : Int), (cnt b m p f).2.2) := by
  unfold ref41_taker_some cnt
  rw [rnum_eq hb hl hp, Option.bind_some, or2]
  by_cases h : (num b p f).1 < 0 ∨ m < (num b p f).1
  · simp only [dec_t h, cond_true, if_pos h]
  · simp only [dec_f h, cond_false, if_neg h]
end Go.Proofs.YtnkfkceghbkkkaaGreat
