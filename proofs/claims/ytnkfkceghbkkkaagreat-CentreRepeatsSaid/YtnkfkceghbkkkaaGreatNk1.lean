/- slices.IndexFunc and slices.ContainsFunc as findIdx and any. No condition. -/
import Derived.Test.YtnkfkceghbkkkaaGreatNk0
namespace Go.Proofs.YtnkfkceghbkkkaaGreat
open Go Go.Sq

theorem idx_api_Segment_api_Segment (s : List (List UInt8 × Int × Int × Int × Int × Int × List (Int × Int × Int))) (p : (List UInt8 × Int × Int × Int × Int × Int × List (Int × Int × Int)) → Bool) (f : (List UInt8 × Int × Int × Int × Int × Int × List (Int × Int × Int)) × Unit → Option Bool) (hf : ∀ x ∈ s, f (x, ()) = some (p x)) (hl : s.length ≤ 1000000) : slices_IndexFunc_api_Segment_api_Segment s f = some (if s.findIdx p < s.length then ((s.findIdx p : Nat) : Int) else -1) := by
 unfold slices_IndexFunc_api_Segment_api_Segment
 have h : iter (fun x => slices_IndexFunc_api_Segment_api_Segment_L0 s f x) 0 = some (if s.findIdx p < s.length then .inr ((s.findIdx p : Nat) : Int) else .inl ()) := by
  refine iter_find (step := fun y => slices_IndexFunc_api_Segment_api_Segment_L0 s f y) (ε := Unit ⊕ Int) s ([], 0, 0, 0, 0, 0, []) p (fin := .inl ()) (fun i => .inr (i : Int)) (fun i hi hq => ?_) (fun i hi hq => ?_) ?_
  ·unfold slices_IndexFunc_api_Segment_api_Segment_L0
   rw [dec_t (show (i : Int) < (s.length : Int) by omega), cond_true, gd_t (inB_t hi), Int.toNat_natCast, hf _ (gD_mem hi), Option.bind_some, hq, cond_false, w1 hi (by omega)]
  ·unfold slices_IndexFunc_api_Segment_api_Segment_L0
   rw [dec_t (show (i : Int) < (s.length : Int) by omega), cond_true, gd_t (inB_t hi), Int.toNat_natCast, hf _ (gD_mem hi), Option.bind_some, hq, cond_true]
  ·unfold slices_IndexFunc_api_Segment_api_Segment_L0
   rw [dec_f (by omega)]; rfl
 rw [h, Option.bind_some]
 by_cases hf : s.findIdx p < s.length
 ·rw [if_pos hf, if_pos hf]; rfl
 ·rw [if_neg hf, if_neg hf]; rfl
theorem any_api_Segment_api_Segment (s : List (List UInt8 × Int × Int × Int × Int × Int × List (Int × Int × Int))) (p : (List UInt8 × Int × Int × Int × Int × Int × List (Int × Int × Int)) → Bool) (f : (List UInt8 × Int × Int × Int × Int × Int × List (Int × Int × Int)) × Unit → Option Bool) (hf : ∀ x ∈ s, f (x, ()) = some (p x)) (hl : s.length ≤ 1000000) : slices_ContainsFunc_api_Segment_api_Segment s f = some (s.any p) := by
 unfold slices_ContainsFunc_api_Segment_api_Segment
 rw [idx_api_Segment_api_Segment s p f hf hl, Option.bind_some, ← findIdx_any]
 by_cases hf : s.findIdx p < s.length
 ·rw [if_pos hf, dec_t hf, dec_t (by omega)]
 ·rw [if_neg hf, dec_f hf, dec_f (by omega)]

theorem idx_string_string (s : List (List UInt8)) (p : (List UInt8) → Bool) (f : (List UInt8) × Unit → Option Bool) (hf : ∀ x ∈ s, f (x, ()) = some (p x)) (hl : s.length ≤ 1000000) : slices_IndexFunc_string_string s f = some (if s.findIdx p < s.length then ((s.findIdx p : Nat) : Int) else -1) := by
 unfold slices_IndexFunc_string_string
 have h : iter (fun x => slices_IndexFunc_string_string_L0 s f x) 0 = some (if s.findIdx p < s.length then .inr ((s.findIdx p : Nat) : Int) else .inl ()) := by
  refine iter_find (step := fun y => slices_IndexFunc_string_string_L0 s f y) (ε := Unit ⊕ Int) s [] p (fin := .inl ()) (fun i => .inr (i : Int)) (fun i hi hq => ?_) (fun i hi hq => ?_) ?_
  ·unfold slices_IndexFunc_string_string_L0
   rw [dec_t (show (i : Int) < (s.length : Int) by omega), cond_true, gd_t (inB_t hi), Int.toNat_natCast, hf _ (gD_mem hi), Option.bind_some, hq, cond_false, w1 hi (by omega)]
  ·unfold slices_IndexFunc_string_string_L0
   rw [dec_t (show (i : Int) < (s.length : Int) by omega), cond_true, gd_t (inB_t hi), Int.toNat_natCast, hf _ (gD_mem hi), Option.bind_some, hq, cond_true]
  ·unfold slices_IndexFunc_string_string_L0
   rw [dec_f (by omega)]; rfl
 rw [h, Option.bind_some]
 by_cases hf : s.findIdx p < s.length
 ·rw [if_pos hf, if_pos hf]; rfl
 ·rw [if_neg hf, if_neg hf]; rfl
theorem any_string_string (s : List (List UInt8)) (p : (List UInt8) → Bool) (f : (List UInt8) × Unit → Option Bool) (hf : ∀ x ∈ s, f (x, ()) = some (p x)) (hl : s.length ≤ 1000000) : slices_ContainsFunc_string_string s f = some (s.any p) := by
 unfold slices_ContainsFunc_string_string
 rw [idx_string_string s p f hf hl, Option.bind_some, ← findIdx_any]
 by_cases hf : s.findIdx p < s.length
 ·rw [if_pos hf, dec_t hf, dec_t (by omega)]
 ·rw [if_neg hf, dec_f hf, dec_f (by omega)]

theorem idx_api_Station_api_Station (s : List (List UInt8 × Int × Int × Int × Int)) (p : (List UInt8 × Int × Int × Int × Int) → Bool) (f : (List UInt8 × Int × Int × Int × Int) × Unit → Option Bool) (hf : ∀ x ∈ s, f (x, ()) = some (p x)) (hl : s.length ≤ 1000000) : slices_IndexFunc_api_Station_api_Station s f = some (if s.findIdx p < s.length then ((s.findIdx p : Nat) : Int) else -1) := by
 unfold slices_IndexFunc_api_Station_api_Station
 have h : iter (fun x => slices_IndexFunc_api_Station_api_Station_L0 s f x) 0 = some (if s.findIdx p < s.length then .inr ((s.findIdx p : Nat) : Int) else .inl ()) := by
  refine iter_find (step := fun y => slices_IndexFunc_api_Station_api_Station_L0 s f y) (ε := Unit ⊕ Int) s ([], 0, 0, 0, 0) p (fin := .inl ()) (fun i => .inr (i : Int)) (fun i hi hq => ?_) (fun i hi hq => ?_) ?_
  ·unfold slices_IndexFunc_api_Station_api_Station_L0
   rw [dec_t (show (i : Int) < (s.length : Int) by omega), cond_true, gd_t (inB_t hi), Int.toNat_natCast, hf _ (gD_mem hi), Option.bind_some, hq, cond_false, w1 hi (by omega)]
  ·unfold slices_IndexFunc_api_Station_api_Station_L0
   rw [dec_t (show (i : Int) < (s.length : Int) by omega), cond_true, gd_t (inB_t hi), Int.toNat_natCast, hf _ (gD_mem hi), Option.bind_some, hq, cond_true]
  ·unfold slices_IndexFunc_api_Station_api_Station_L0
   rw [dec_f (by omega)]; rfl
 rw [h, Option.bind_some]
 by_cases hf : s.findIdx p < s.length
 ·rw [if_pos hf, if_pos hf]; rfl
 ·rw [if_neg hf, if_neg hf]; rfl
theorem any_api_Station_api_Station (s : List (List UInt8 × Int × Int × Int × Int)) (p : (List UInt8 × Int × Int × Int × Int) → Bool) (f : (List UInt8 × Int × Int × Int × Int) × Unit → Option Bool) (hf : ∀ x ∈ s, f (x, ()) = some (p x)) (hl : s.length ≤ 1000000) : slices_ContainsFunc_api_Station_api_Station s f = some (s.any p) := by
 unfold slices_ContainsFunc_api_Station_api_Station
 rw [idx_api_Station_api_Station s p f hf hl, Option.bind_some, ← findIdx_any]
 by_cases hf : s.findIdx p < s.length
 ·rw [if_pos hf, dec_t hf, dec_t (by omega)]
 ·rw [if_neg hf, dec_f hf, dec_f (by omega)]

theorem idx_int_int (s : List (Int)) (p : (Int) → Bool) (f : (Int) × Unit → Option Bool) (hf : ∀ x ∈ s, f (x, ()) = some (p x)) (hl : s.length ≤ 1000000) : slices_IndexFunc_int_int s f = some (if s.findIdx p < s.length then ((s.findIdx p : Nat) : Int) else -1) := by
 unfold slices_IndexFunc_int_int
 have h : iter (fun x => slices_IndexFunc_int_int_L0 s f x) 0 = some (if s.findIdx p < s.length then .inr ((s.findIdx p : Nat) : Int) else .inl ()) := by
  refine iter_find (step := fun y => slices_IndexFunc_int_int_L0 s f y) (ε := Unit ⊕ Int) s 0 p (fin := .inl ()) (fun i => .inr (i : Int)) (fun i hi hq => ?_) (fun i hi hq => ?_) ?_
  ·unfold slices_IndexFunc_int_int_L0
   rw [dec_t (show (i : Int) < (s.length : Int) by omega), cond_true, gd_t (inB_t hi), Int.toNat_natCast, hf _ (gD_mem hi), Option.bind_some, hq, cond_false, w1 hi (by omega)]
  ·unfold slices_IndexFunc_int_int_L0
   rw [dec_t (show (i : Int) < (s.length : Int) by omega), cond_true, gd_t (inB_t hi), Int.toNat_natCast, hf _ (gD_mem hi), Option.bind_some, hq, cond_true]
  ·unfold slices_IndexFunc_int_int_L0
   rw [dec_f (by omega)]; rfl
 rw [h, Option.bind_some]
 by_cases hf : s.findIdx p < s.length
 ·rw [if_pos hf, if_pos hf]; rfl
 ·rw [if_neg hf, if_neg hf]; rfl
theorem any_int_int (s : List (Int)) (p : (Int) → Bool) (f : (Int) × Unit → Option Bool) (hf : ∀ x ∈ s, f (x, ()) = some (p x)) (hl : s.length ≤ 1000000) : slices_ContainsFunc_int_int s f = some (s.any p) := by
 unfold slices_ContainsFunc_int_int
 rw [idx_int_int s p f hf hl, Option.bind_some, ← findIdx_any]
 by_cases hf : s.findIdx p < s.length
 ·rw [if_pos hf, dec_t hf, dec_t (by omega)]
 ·rw [if_neg hf, dec_f hf, dec_f (by omega)]

theorem idx_api_Port_api_Port (s : List (List UInt8 × Int × Int)) (p : (List UInt8 × Int × Int) → Bool) (f : (List UInt8 × Int × Int) × Unit → Option Bool) (hf : ∀ x ∈ s, f (x, ()) = some (p x)) (hl : s.length ≤ 1000000) : slices_IndexFunc_api_Port_api_Port s f = some (if s.findIdx p < s.length then ((s.findIdx p : Nat) : Int) else -1) := by
 unfold slices_IndexFunc_api_Port_api_Port
 have h : iter (fun x => slices_IndexFunc_api_Port_api_Port_L0 s f x) 0 = some (if s.findIdx p < s.length then .inr ((s.findIdx p : Nat) : Int) else .inl ()) := by
  refine iter_find (step := fun y => slices_IndexFunc_api_Port_api_Port_L0 s f y) (ε := Unit ⊕ Int) s ([], 0, 0) p (fin := .inl ()) (fun i => .inr (i : Int)) (fun i hi hq => ?_) (fun i hi hq => ?_) ?_
  ·unfold slices_IndexFunc_api_Port_api_Port_L0
   rw [dec_t (show (i : Int) < (s.length : Int) by omega), cond_true, gd_t (inB_t hi), Int.toNat_natCast, hf _ (gD_mem hi), Option.bind_some, hq, cond_false, w1 hi (by omega)]
  ·unfold slices_IndexFunc_api_Port_api_Port_L0
   rw [dec_t (show (i : Int) < (s.length : Int) by omega), cond_true, gd_t (inB_t hi), Int.toNat_natCast, hf _ (gD_mem hi), Option.bind_some, hq, cond_true]
  ·unfold slices_IndexFunc_api_Port_api_Port_L0
   rw [dec_f (by omega)]; rfl
 rw [h, Option.bind_some]
 by_cases hf : s.findIdx p < s.length
 ·rw [if_pos hf, if_pos hf]; rfl
 ·rw [if_neg hf, if_neg hf]; rfl
theorem any_api_Port_api_Port (s : List (List UInt8 × Int × Int)) (p : (List UInt8 × Int × Int) → Bool) (f : (List UInt8 × Int × Int) × Unit → Option Bool) (hf : ∀ x ∈ s, f (x, ()) = some (p x)) (hl : s.length ≤ 1000000) : slices_ContainsFunc_api_Port_api_Port s f = some (s.any p) := by
 unfold slices_ContainsFunc_api_Port_api_Port
 rw [idx_api_Port_api_Port s p f hf hl, Option.bind_some, ← findIdx_any]
 by_cases hf : s.findIdx p < s.length
 ·rw [if_pos hf, dec_t hf, dec_t (by omega)]
 ·rw [if_neg hf, dec_f hf, dec_f (by omega)]

theorem idx_api_Telegram_api_Telegram (s : List (Int × Int × Int × Int × Int × List Int)) (p : (Int × Int × Int × Int × Int × List Int) → Bool) (f : (Int × Int × Int × Int × Int × List Int) × Unit → Option Bool) (hf : ∀ x ∈ s, f (x, ()) = some (p x)) (hl : s.length ≤ 1000000) : slices_IndexFunc_api_Telegram_api_Telegram s f = some (if s.findIdx p < s.length then ((s.findIdx p : Nat) : Int) else -1) := by
 unfold slices_IndexFunc_api_Telegram_api_Telegram
 have h : iter (fun x => slices_IndexFunc_api_Telegram_api_Telegram_L0 s f x) 0 = some (if s.findIdx p < s.length then .inr ((s.findIdx p : Nat) : Int) else .inl ()) := by
  refine iter_find (step := fun y => slices_IndexFunc_api_Telegram_api_Telegram_L0 s f y) (ε := Unit ⊕ Int) s (0, 0, 0, 0, 0, []) p (fin := .inl ()) (fun i => .inr (i : Int)) (fun i hi hq => ?_) (fun i hi hq => ?_) ?_
  ·unfold slices_IndexFunc_api_Telegram_api_Telegram_L0
   rw [dec_t (show (i : Int) < (s.length : Int) by omega), cond_true, gd_t (inB_t hi), Int.toNat_natCast, hf _ (gD_mem hi), Option.bind_some, hq, cond_false, w1 hi (by omega)]
  ·unfold slices_IndexFunc_api_Telegram_api_Telegram_L0
   rw [dec_t (show (i : Int) < (s.length : Int) by omega), cond_true, gd_t (inB_t hi), Int.toNat_natCast, hf _ (gD_mem hi), Option.bind_some, hq, cond_true]
  ·unfold slices_IndexFunc_api_Telegram_api_Telegram_L0
   rw [dec_f (by omega)]; rfl
 rw [h, Option.bind_some]
 by_cases hf : s.findIdx p < s.length
 ·rw [if_pos hf, if_pos hf]; rfl
 ·rw [if_neg hf, if_neg hf]; rfl
end Go.Proofs.YtnkfkceghbkkkaaGreat
