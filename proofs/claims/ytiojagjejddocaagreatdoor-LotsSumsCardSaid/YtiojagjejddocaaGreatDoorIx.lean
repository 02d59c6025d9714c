/- slices.IndexFunc and slices.ContainsFunc. No condition. -/
import Derived.Test.YtiojagjejddocaaGreatDoorLe
import Derived.Test.YtiojagjejddocaaGreatDoorSqZ
namespace Go.Proofs.YtiojagjejddocaaGreatDoor
open Go Go.Sq

theorem none_api_Segment_api_Segment (s : List (List UInt8 × Int × Int × Int × Int × Int × List (Int × Int × Int))) (f : (List UInt8 × Int × Int × Int × Int × Int × List (Int × Int × Int)) × Unit → Option Bool) (hf : ∀ x ∈ s, f (x, ()) = some false) (hl : s.length ≤ 1000000) : slices_IndexFunc_api_Segment_api_Segment s f = some (-1) := by
  have key : Ok (slices_IndexFunc_api_Segment_api_Segment s f) fun r => r = -1 := by
    unfold slices_IndexFunc_api_Segment_api_Segment
    refine Ok.bind (Q := fun e : Unit ⊕ Int => ∃ u, e = .inl u) ?_ fun e he => ?_
    · refine Ok.loop (fun v : Int => ∃ k : Nat, v = (k : Int) ∧ k ≤ s.length) (fun v => s.length - v.toNat) ⟨0, rfl, by omega⟩ ?_
      rintro v ⟨k, rfl, hk⟩
      unfold slices_IndexFunc_api_Segment_api_Segment_L0
      refine Ok.bif (fun hc => ?_) fun hc => ?_
      · have hc := of_decide_eq_true hc
        have hk : k < s.length := by omega
        refine Ok.gd (inB_t hk) ?_
        rw [Int.toNat_natCast]
        refine Ok.eq (hf _ (gD_mem hk)) ?_
        simp only [cond_false]
        rw [show wi64 ((k : Int) + 1) = ((k + 1 : Nat) : Int) by rw [wi (by omega)]; rfl]
        exact .ret ⟨⟨k + 1, rfl, by omega⟩, by simp only [Int.toNat_natCast]; omega⟩
      · exact .ret ⟨(), rfl⟩
    · obtain ⟨u, rfl⟩ := he
      exact .ret rfl
  obtain ⟨r, h1, h2⟩ := key
  rw [h1, h2]
theorem cont_api_Segment_api_Segment (s : List (List UInt8 × Int × Int × Int × Int × Int × List (Int × Int × Int))) (f : (List UInt8 × Int × Int × Int × Int × Int × List (Int × Int × Int)) × Unit → Option Bool) (hf : ∀ x ∈ s, f (x, ()) = some false) (hl : s.length ≤ 1000000) : slices_ContainsFunc_api_Segment_api_Segment s f = some false := by
  unfold slices_ContainsFunc_api_Segment_api_Segment
  rw [none_api_Segment_api_Segment s f hf hl]; rfl

theorem none_string_string (s : List (List UInt8)) (f : (List UInt8) × Unit → Option Bool) (hf : ∀ x ∈ s, f (x, ()) = some false) (hl : s.length ≤ 1000000) : slices_IndexFunc_string_string s f = some (-1) := by
  have key : Ok (slices_IndexFunc_string_string s f) fun r => r = -1 := by
    unfold slices_IndexFunc_string_string
    refine Ok.bind (Q := fun e : Unit ⊕ Int => ∃ u, e = .inl u) ?_ fun e he => ?_
    · refine Ok.loop (fun v : Int => ∃ k : Nat, v = (k : Int) ∧ k ≤ s.length) (fun v => s.length - v.toNat) ⟨0, rfl, by omega⟩ ?_
      rintro v ⟨k, rfl, hk⟩
      unfold slices_IndexFunc_string_string_L0
      refine Ok.bif (fun hc => ?_) fun hc => ?_
      · have hc := of_decide_eq_true hc
        have hk : k < s.length := by omega
        refine Ok.gd (inB_t hk) ?_
        rw [Int.toNat_natCast]
        refine Ok.eq (hf _ (gD_mem hk)) ?_
        simp only [cond_false]
        rw [show wi64 ((k : Int) + 1) = ((k + 1 : Nat) : Int) by rw [wi (by omega)]; rfl]
        exact .ret ⟨⟨k + 1, rfl, by omega⟩, by simp only [Int.toNat_natCast]; omega⟩
      · exact .ret ⟨(), rfl⟩
    · obtain ⟨u, rfl⟩ := he
      exact .ret rfl
  obtain ⟨r, h1, h2⟩ := key
  rw [h1, h2]
theorem cont_string_string (s : List (List UInt8)) (f : (List UInt8) × Unit → Option Bool) (hf : ∀ x ∈ s, f (x, ()) = some false) (hl : s.length ≤ 1000000) : slices_ContainsFunc_string_string s f = some false := by
  unfold slices_ContainsFunc_string_string
  rw [none_string_string s f hf hl]; rfl

theorem none_api_Station_api_Station (s : List (List UInt8 × Int × Int × Int × Int)) (f : (List UInt8 × Int × Int × Int × Int) × Unit → Option Bool) (hf : ∀ x ∈ s, f (x, ()) = some false) (hl : s.length ≤ 1000000) : slices_IndexFunc_api_Station_api_Station s f = some (-1) := by
  have key : Ok (slices_IndexFunc_api_Station_api_Station s f) fun r => r = -1 := by
    unfold slices_IndexFunc_api_Station_api_Station
    refine Ok.bind (Q := fun e : Unit ⊕ Int => ∃ u, e = .inl u) ?_ fun e he => ?_
    · refine Ok.loop (fun v : Int => ∃ k : Nat, v = (k : Int) ∧ k ≤ s.length) (fun v => s.length - v.toNat) ⟨0, rfl, by omega⟩ ?_
      rintro v ⟨k, rfl, hk⟩
      unfold slices_IndexFunc_api_Station_api_Station_L0
      refine Ok.bif (fun hc => ?_) fun hc => ?_
      · have hc := of_decide_eq_true hc
        have hk : k < s.length := by omega
        refine Ok.gd (inB_t hk) ?_
        rw [Int.toNat_natCast]
        refine Ok.eq (hf _ (gD_mem hk)) ?_
        simp only [cond_false]
        rw [show wi64 ((k : Int) + 1) = ((k + 1 : Nat) : Int) by rw [wi (by omega)]; rfl]
        exact .ret ⟨⟨k + 1, rfl, by omega⟩, by simp only [Int.toNat_natCast]; omega⟩
      · exact .ret ⟨(), rfl⟩
    · obtain ⟨u, rfl⟩ := he
      exact .ret rfl
  obtain ⟨r, h1, h2⟩ := key
  rw [h1, h2]
theorem cont_api_Station_api_Station (s : List (List UInt8 × Int × Int × Int × Int)) (f : (List UInt8 × Int × Int × Int × Int) × Unit → Option Bool) (hf : ∀ x ∈ s, f (x, ()) = some false) (hl : s.length ≤ 1000000) : slices_ContainsFunc_api_Station_api_Station s f = some false := by
  unfold slices_ContainsFunc_api_Station_api_Station
  rw [none_api_Station_api_Station s f hf hl]; rfl
theorem has_api_Station_api_Station (s : List (List UInt8 × Int × Int × Int × Int)) (p : (List UInt8 × Int × Int × Int × Int) → Bool) (f : (List UInt8 × Int × Int × Int × Int) × Unit → Option Bool) (hf : ∀ x, f (x, ()) = some (p x)) (hl : s.length ≤ 1000000) (d : List UInt8 × Int × Int × Int × Int) (hd : d = ([], 0, 0, 0, 0)) :
    Ok (slices_IndexFunc_api_Station_api_Station s f) fun r => (r = -1 ∧ ∀ i, i < s.length → p (s.getD i d) = false) ∨ ∃ k : Nat, k < s.length ∧ r = (k : Int) ∧ p (s.getD k d) = true ∧ ∀ i, i < k → p (s.getD i d) = false := by
  subst hd
  unfold slices_IndexFunc_api_Station_api_Station
  refine Ok.bind (Q := fun e : Unit ⊕ Int => (∃ u, e = .inl u ∧ ∀ i, i < s.length → p (s.getD i ([], 0, 0, 0, 0)) = false) ∨ ∃ k : Nat, e = .inr (k : Int) ∧ k < s.length ∧ p (s.getD k ([], 0, 0, 0, 0)) = true ∧ ∀ i, i < k → p (s.getD i ([], 0, 0, 0, 0)) = false) ?_ fun e he => ?_
  · refine Ok.loop (fun v : Int => ∃ k : Nat, v = (k : Int) ∧ k ≤ s.length ∧ ∀ i, i < k → p (s.getD i ([], 0, 0, 0, 0)) = false) (fun v => s.length - v.toNat) ⟨0, rfl, by omega, fun i hi => by omega⟩ ?_
    rintro v ⟨k, rfl, hk, hp⟩
    unfold slices_IndexFunc_api_Station_api_Station_L0
    refine Ok.bif (fun hc => ?_) fun hc => ?_
    · have hc := of_decide_eq_true hc
      have hk : k < s.length := by omega
      refine Ok.gd (inB_t hk) ?_
      refine Ok.eq (hf _) ?_
      rw [Int.toNat_natCast]
      refine Ok.bif (fun hb => ?_) fun hb => ?_
      · exact .ret (.inr ⟨k, rfl, hk, hb, hp⟩)
      · rw [show wi64 ((k : Int) + 1) = ((k + 1 : Nat) : Int) by rw [wi (by omega)]; rfl]
        refine .ret ⟨⟨k + 1, rfl, by omega, fun i hi => ?_⟩, by simp only [Int.toNat_natCast]; omega⟩
        rcases Nat.lt_or_ge i k with h | h
        · exact hp i h
        · obtain rfl : i = k := by omega
          exact hb
    · have hc := of_decide_eq_false hc
      exact .ret (.inl ⟨(), rfl, fun i hi => hp i (by omega)⟩)
  · rcases he with ⟨u, rfl, h⟩ | ⟨k, rfl, h1, h2, h3⟩
    · exact .ret (.inl ⟨rfl, h⟩)
    · exact .ret (.inr ⟨k, h1, rfl, h2, h3⟩)

theorem none_int_int (s : List (Int)) (f : (Int) × Unit → Option Bool) (hf : ∀ x ∈ s, f (x, ()) = some false) (hl : s.length ≤ 1000000) : slices_IndexFunc_int_int s f = some (-1) := by
  have key : Ok (slices_IndexFunc_int_int s f) fun r => r = -1 := by
    unfold slices_IndexFunc_int_int
    refine Ok.bind (Q := fun e : Unit ⊕ Int => ∃ u, e = .inl u) ?_ fun e he => ?_
    · refine Ok.loop (fun v : Int => ∃ k : Nat, v = (k : Int) ∧ k ≤ s.length) (fun v => s.length - v.toNat) ⟨0, rfl, by omega⟩ ?_
      rintro v ⟨k, rfl, hk⟩
      unfold slices_IndexFunc_int_int_L0
      refine Ok.bif (fun hc => ?_) fun hc => ?_
      · have hc := of_decide_eq_true hc
        have hk : k < s.length := by omega
        refine Ok.gd (inB_t hk) ?_
        rw [Int.toNat_natCast]
        refine Ok.eq (hf _ (gD_mem hk)) ?_
        simp only [cond_false]
        rw [show wi64 ((k : Int) + 1) = ((k + 1 : Nat) : Int) by rw [wi (by omega)]; rfl]
        exact .ret ⟨⟨k + 1, rfl, by omega⟩, by simp only [Int.toNat_natCast]; omega⟩
      · exact .ret ⟨(), rfl⟩
    · obtain ⟨u, rfl⟩ := he
      exact .ret rfl
  obtain ⟨r, h1, h2⟩ := key
  rw [h1, h2]
theorem cont_int_int (s : List (Int)) (f : (Int) × Unit → Option Bool) (hf : ∀ x ∈ s, f (x, ()) = some false) (hl : s.length ≤ 1000000) : slices_ContainsFunc_int_int s f = some false := by
  unfold slices_ContainsFunc_int_int
  rw [none_int_int s f hf hl]; rfl

theorem none_api_Port_api_Port (s : List (List UInt8 × Int × Int)) (f : (List UInt8 × Int × Int) × Unit → Option Bool) (hf : ∀ x ∈ s, f (x, ()) = some false) (hl : s.length ≤ 1000000) : slices_IndexFunc_api_Port_api_Port s f = some (-1) := by
  have key : Ok (slices_IndexFunc_api_Port_api_Port s f) fun r => r = -1 := by
    unfold slices_IndexFunc_api_Port_api_Port
    refine Ok.bind (Q := fun e : Unit ⊕ Int => ∃ u, e = .inl u) ?_ fun e he => ?_
    · refine Ok.loop (fun v : Int => ∃ k : Nat, v = (k : Int) ∧ k ≤ s.length) (fun v => s.length - v.toNat) ⟨0, rfl, by omega⟩ ?_
      rintro v ⟨k, rfl, hk⟩
      unfold slices_IndexFunc_api_Port_api_Port_L0
      refine Ok.bif (fun hc => ?_) fun hc => ?_
      · have hc := of_decide_eq_true hc
        have hk : k < s.length := by omega
        refine Ok.gd (inB_t hk) ?_
        rw [Int.toNat_natCast]
        refine Ok.eq (hf _ (gD_mem hk)) ?_
        simp only [cond_false]
        rw [show wi64 ((k : Int) + 1) = ((k + 1 : Nat) : Int) by rw [wi (by omega)]; rfl]
        exact .ret ⟨⟨k + 1, rfl, by omega⟩, by simp only [Int.toNat_natCast]; omega⟩
      · exact .ret ⟨(), rfl⟩
    · obtain ⟨u, rfl⟩ := he
      exact .ret rfl
  obtain ⟨r, h1, h2⟩ := key
  rw [h1, h2]
theorem cont_api_Port_api_Port (s : List (List UInt8 × Int × Int)) (f : (List UInt8 × Int × Int) × Unit → Option Bool) (hf : ∀ x ∈ s, f (x, ()) = some false) (hl : s.length ≤ 1000000) : slices_ContainsFunc_api_Port_api_Port s f = some false := by
  unfold slices_ContainsFunc_api_Port_api_Port
  rw [none_api_Port_api_Port s f hf hl]; rfl
theorem has_api_Port_api_Port (s : List (List UInt8 × Int × Int)) (p : (List UInt8 × Int × Int) → Bool) (f : (List UInt8 × Int × Int) × Unit → Option Bool) (hf : ∀ x, f (x, ()) = some (p x)) (hl : s.length ≤ 1000000) (d : List UInt8 × Int × Int) (hd : d = ([], 0, 0)) :
    Ok (slices_IndexFunc_api_Port_api_Port s f) fun r => (r = -1 ∧ ∀ i, i < s.length → p (s.getD i d) = false) ∨ ∃ k : Nat, k < s.length ∧ r = (k : Int) ∧ p (s.getD k d) = true ∧ ∀ i, i < k → p (s.getD i d) = false := by
  subst hd
  unfold slices_IndexFunc_api_Port_api_Port
  refine Ok.bind (Q := fun e : Unit ⊕ Int => (∃ u, e = .inl u ∧ ∀ i, i < s.length → p (s.getD i ([], 0, 0)) = false) ∨ ∃ k : Nat, e = .inr (k : Int) ∧ k < s.length ∧ p (s.getD k ([], 0, 0)) = true ∧ ∀ i, i < k → p (s.getD i ([], 0, 0)) = false) ?_ fun e he => ?_
  · refine Ok.loop (fun v : Int => ∃ k : Nat, v = (k : Int) ∧ k ≤ s.length ∧ ∀ i, i < k → p (s.getD i ([], 0, 0)) = false) (fun v => s.length - v.toNat) ⟨0, rfl, by omega, fun i hi => by omega⟩ ?_
    rintro v ⟨k, rfl, hk, hp⟩
    unfold slices_IndexFunc_api_Port_api_Port_L0
    refine Ok.bif (fun hc => ?_) fun hc => ?_
    · have hc := of_decide_eq_true hc
      have hk : k < s.length := by omega
      refine Ok.gd (inB_t hk) ?_
      refine Ok.eq (hf _) ?_
      rw [Int.toNat_natCast]
      refine Ok.bif (fun hb => ?_) fun hb => ?_
      · exact .ret (.inr ⟨k, rfl, hk, hb, hp⟩)
      · rw [show wi64 ((k : Int) + 1) = ((k + 1 : Nat) : Int) by rw [wi (by omega)]; rfl]
        refine .ret ⟨⟨k + 1, rfl, by omega, fun i hi => ?_⟩, by simp only [Int.toNat_natCast]; omega⟩
        rcases Nat.lt_or_ge i k with h | h
        · exact hp i h
        · obtain rfl : i = k := by omega
          exact hb
    · have hc := of_decide_eq_false hc
      exact .ret (.inl ⟨(), rfl, fun i hi => hp i (by omega)⟩)
  · rcases he with ⟨u, rfl, h⟩ | ⟨k, rfl, h1, h2, h3⟩
    · exact .ret (.inl ⟨rfl, h⟩)
    · exact .ret (.inr ⟨k, h1, rfl, h2, h3⟩)
theorem has_api_Product_api_Product (s : List (List UInt8 × Int × Int × Int × Int)) (p : (List UInt8 × Int × Int × Int × Int) → Bool) (f : (List UInt8 × Int × Int × Int × Int) × Unit → Option Bool) (hf : ∀ x, f (x, ()) = some (p x)) (hl : s.length ≤ 1000000) (d : List UInt8 × Int × Int × Int × Int) (hd : d = ([], 0, 0, 0, 0)) :
    Ok (slices_IndexFunc_api_Product_api_Product s f) fun r => (r = -1 ∧ ∀ i, i < s.length → p (s.getD i d) = false) ∨ ∃ k : Nat, k < s.length ∧ r = (k : Int) ∧ p (s.getD k d) = true ∧ ∀ i, i < k → p (s.getD i d) = false := by
  subst hd
  unfold slices_IndexFunc_api_Product_api_Product
  refine Ok.bind (Q := fun e : Unit ⊕ Int => (∃ u, e = .inl u ∧ ∀ i, i < s.length → p (s.getD i ([], 0, 0, 0, 0)) = false) ∨ ∃ k : Nat, e = .inr (k : Int) ∧ k < s.length ∧ p (s.getD k ([], 0, 0, 0, 0)) = true ∧ ∀ i, i < k → p (s.getD i ([], 0, 0, 0, 0)) = false) ?_ fun e he => ?_
  · refine Ok.loop (fun v : Int => ∃ k : Nat, v = (k : Int) ∧ k ≤ s.length ∧ ∀ i, i < k → p (s.getD i ([], 0, 0, 0, 0)) = false) (fun v => s.length - v.toNat) ⟨0, rfl, by omega, fun i hi => by omega⟩ ?_
    rintro v ⟨k, rfl, hk, hp⟩
    unfold slices_IndexFunc_api_Product_api_Product_L0
    refine Ok.bif (fun hc => ?_) fun hc => ?_
    · have hc := of_decide_eq_true hc
      have hk : k < s.length := by omega
      refine Ok.gd (inB_t hk) ?_
      refine Ok.eq (hf _) ?_
      rw [Int.toNat_natCast]
      refine Ok.bif (fun hb => ?_) fun hb => ?_
      · exact .ret (.inr ⟨k, rfl, hk, hb, hp⟩)
      · rw [show wi64 ((k : Int) + 1) = ((k + 1 : Nat) : Int) by rw [wi (by omega)]; rfl]
        refine .ret ⟨⟨k + 1, rfl, by omega, fun i hi => ?_⟩, by simp only [Int.toNat_natCast]; omega⟩
        rcases Nat.lt_or_ge i k with h | h
        · exact hp i h
        · obtain rfl : i = k := by omega
          exact hb
    · have hc := of_decide_eq_false hc
      exact .ret (.inl ⟨(), rfl, fun i hi => hp i (by omega)⟩)
  · rcases he with ⟨u, rfl, h⟩ | ⟨k, rfl, h1, h2, h3⟩
    · exact .ret (.inl ⟨rfl, h⟩)
    · exact .ret (.inr ⟨k, h1, rfl, h2, h3⟩)

theorem none_api_Nomination_api_Nomination (s : List (List UInt8 × List UInt8 × List UInt8 × List UInt8 × Int × Int)) (f : (List UInt8 × List UInt8 × List UInt8 × List UInt8 × Int × Int) × Unit → Option Bool) (hf : ∀ x ∈ s, f (x, ()) = some false) (hl : s.length ≤ 1000000) : slices_IndexFunc_api_Nomination_api_Nomination s f = some (-1) := by
  have key : Ok (slices_IndexFunc_api_Nomination_api_Nomination s f) fun r => r = -1 := by
    unfold slices_IndexFunc_api_Nomination_api_Nomination
    refine Ok.bind (Q := fun e : Unit ⊕ Int => ∃ u, e = .inl u) ?_ fun e he => ?_
    · refine Ok.loop (fun v : Int => ∃ k : Nat, v = (k : Int) ∧ k ≤ s.length) (fun v => s.length - v.toNat) ⟨0, rfl, by omega⟩ ?_
      rintro v ⟨k, rfl, hk⟩
      unfold slices_IndexFunc_api_Nomination_api_Nomination_L0
      refine Ok.bif (fun hc => ?_) fun hc => ?_
      · have hc := of_decide_eq_true hc
        have hk : k < s.length := by omega
        refine Ok.gd (inB_t hk) ?_
        rw [Int.toNat_natCast]
        refine Ok.eq (hf _ (gD_mem hk)) ?_
        simp only [cond_false]
        rw [show wi64 ((k : Int) + 1) = ((k + 1 : Nat) : Int) by rw [wi (by omega)]; rfl]
        exact .ret ⟨⟨k + 1, rfl, by omega⟩, by simp only [Int.toNat_natCast]; omega⟩
      · exact .ret ⟨(), rfl⟩
    · obtain ⟨u, rfl⟩ := he
      exact .ret rfl
  obtain ⟨r, h1, h2⟩ := key
  rw [h1, h2]
theorem cont_api_Nomination_api_Nomination (s : List (List UInt8 × List UInt8 × List UInt8 × List UInt8 × Int × Int)) (f : (List UInt8 × List UInt8 × List UInt8 × List UInt8 × Int × Int) × Unit → Option Bool) (hf : ∀ x ∈ s, f (x, ()) = some false) (hl : s.length ≤ 1000000) : slices_ContainsFunc_api_Nomination_api_Nomination s f = some false := by
  unfold slices_ContainsFunc_api_Nomination_api_Nomination
  rw [none_api_Nomination_api_Nomination s f hf hl]; rfl
end Go.Proofs.YtiojagjejddocaaGreatDoor
