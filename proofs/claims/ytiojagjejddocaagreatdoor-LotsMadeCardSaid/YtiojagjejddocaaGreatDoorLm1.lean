/- Products and their check. No condition. -/
import Derived.Test.YtiojagjejddocaaGreatDoorLm0
namespace Go.Proofs.YtiojagjejddocaaGreatDoor
open Go Go.Sq
set_option linter.unusedVariables false
abbrev Pro := Str × Int × Int × Int × Int
abbrev P0 : Pro := ([], (0, (0, (0, 0))))
def rgB (lo hi n : Int) : Bool := !(decide (n < lo)) && !(decide (hi < n))
def okB (n : Int × Int × Int × Int) : Bool := rgB 400 1200 n.1 && (rgB 0 2000 n.2.1 && (rgB 0 5000 n.2.2.1 && rgB 1 2000 n.2.2.2))
def validB (p : Pro) : Bool := okB p.2 && nameB p.1
def stV (c d : Bool) (k : Int) : Option (Int ⊕ (Unit ⊕ Bool)) := Option.bind (α := Bool) (bif c then some true else some d) fun s => bif s then some (.inr (.inr false)) else some (.inl k)
theorem vL (r : Int × Int × Int × Int) : product_Valid_L0 r 0 = some (bif rgB 400 1200 r.1 then .inl 1 else .inr (.inr false)) ∧ product_Valid_L0 r 1 = some (bif rgB 0 2000 r.2.1 then .inl 2 else .inr (.inr false)) ∧
    product_Valid_L0 r 2 = some (bif rgB 0 5000 r.2.2.1 then .inl 3 else .inr (.inr false)) ∧ product_Valid_L0 r 3 = some (bif rgB 1 2000 r.2.2.2 then .inl 4 else .inr (.inr false)) ∧ product_Valid_L0 r 4 = some (.inr (.inl ())) := by
  obtain ⟨a, b, c, d⟩ := r
  refine ⟨?_, ?_, ?_, ?_, rfl⟩
  · show stV (decide (a < 400)) (decide (1200 < a)) (wi64 (0 + 1)) = _
    unfold rgB
    cases decide (a < 400) <;> cases decide (1200 < a) <;> rfl
  · show stV (decide (b < 0)) (decide (2000 < b)) (wi64 (1 + 1)) = _
    unfold rgB
    cases decide (b < 0) <;> cases decide (2000 < b) <;> rfl
  · show stV (decide (c < 0)) (decide (5000 < c)) (wi64 (2 + 1)) = _
    unfold rgB
    cases decide (c < 0) <;> cases decide (5000 < c) <;> rfl
  · show stV (decide (d < 1)) (decide (2000 < d)) (wi64 (3 + 1)) = _
    unfold rgB
    cases decide (d < 1) <;> cases decide (2000 < d) <;> rfl
theorem vloop (r : Int × Int × Int × Int) : iter (fun x => product_Valid_L0 r x) 0 = some (bif okB r then .inl () else .inr false) := by
  obtain ⟨h0, h1, h2, h3, h4⟩ := vL r
  unfold okB
  cases c0 : rgB 400 1200 r.1 with
  | false => rw [c0] at h0; exact iter_inr h0
  | true =>
    rw [c0] at h0
    rw [iter_inl h0]
    cases c1 : rgB 0 2000 r.2.1 with
    | false => rw [c1] at h1; exact iter_inr h1
    | true =>
      rw [c1] at h1
      rw [iter_inl h1]
      cases c2 : rgB 0 5000 r.2.2.1 with
      | false => rw [c2] at h2; exact iter_inr h2
      | true =>
        rw [c2] at h2
        rw [iter_inl h2]
        cases c3 : rgB 1 2000 r.2.2.2 with
        | false => rw [c3] at h3; exact iter_inr h3
        | true =>
          rw [c3] at h3
          rw [iter_inl h3]
          exact iter_inr h4
theorem valid_eq (p : Pro) (h : p.1.length ≤ 1000000) : product_Valid p = some (validB p) := by
  unfold product_Valid product_numbers
  rw [Option.bind_some, vloop, Option.bind_some, lname_eq _ h]
  unfold validB
  cases okB (p.2.1, p.2.2.1, p.2.2.2.1, p.2.2.2.2) with
  | false => rfl
  | true => rfl
def fnd (l : List Pro) (x : Str) : Nat := l.findIdx fun p => decide (p.1 = x)
def fndI (l : List Pro) (x : Str) : Int := if fnd l x < l.length then (fnd l x : Int) else -1
theorem find_eq (l : List Pro) (x : Str) (hl : l.length ≤ 1000000) : product_Find l x = some (fndI l x) := by
  unfold product_Find slices_IndexFunc_api_Product_api_Product
  have h : iter (fun y => slices_IndexFunc_api_Product_api_Product_L0 l (fun h => (product_Find_1 h.1 x).bind fun y => some y) y) 0 = some (if l.findIdx (fun p => decide (p.1 = x)) < l.length then .inr ((l.findIdx (fun p => decide (p.1 = x)) : Nat) : Int) else .inl ()) := by
    refine iter_find (step := fun y => slices_IndexFunc_api_Product_api_Product_L0 l (fun h => (product_Find_1 h.1 x).bind fun y => some y) y) (ε := Unit ⊕ Int) l P0 (fun p => decide (p.1 = x)) (fin := .inl ()) (fun i => .inr (i : Int)) (fun i hi hq => ?_) (fun i hi hq => ?_) ?_
    · unfold slices_IndexFunc_api_Product_api_Product_L0 product_Find_1
      simp only [Option.bind_some]
      rw [dec_t (show (i : Int) < (l.length : Int) by omega), cond_true, gd_t (inB_t hi), Int.toNat_natCast, hq, cond_false, w1 hi (by omega)]
    · unfold slices_IndexFunc_api_Product_api_Product_L0 product_Find_1
      simp only [Option.bind_some]
      rw [dec_t (show (i : Int) < (l.length : Int) by omega), cond_true, gd_t (inB_t hi), Int.toNat_natCast, hq, cond_true]
    · unfold slices_IndexFunc_api_Product_api_Product_L0
      rw [dec_f (by omega)]; rfl
  rw [h, Option.bind_some]
  unfold fndI fnd
  by_cases hf : l.findIdx (fun p => decide (p.1 = x)) < l.length
  · rw [if_pos hf, if_pos hf]; rfl
  · rw [if_neg hf, if_neg hf]; rfl
theorem fnd_le (l : List Pro) (i : Nat) (hi : i < l.length) : fnd l (l.getD i P0).1 ≤ i := by
  unfold fnd
  rcases Nat.lt_or_ge i (l.findIdx fun p : Pro => decide (p.1 = (l.getD i P0).1)) with h | h
  · have := List.not_of_lt_findIdx h
    have h2 := of_decide_eq_false this
    exact absurd (congrArg (fun p : Pro => p.1) (gD_eq (d := P0) hi).symm) h2
  · exact h
def chkB (l : List Pro) : Int := bif Nat.blt 16 l.length then 4 else bif !l.all validB then 9 else bif (List.range l.length).all (fun i => Nat.beq (fnd l (l.getD i P0).1) i) then 0 else 7
theorem check_eq (l : List Pro) (h : ∀ p ∈ l, p.1.length ≤ 1000000) (hl : l.length ≤ 1000000) : product_Check l = some (chkB l) := by
  unfold product_Check chkB
  by_cases h16 : 16 < l.length
  · rw [dec_t (show 16 < (l.length : Int) by omega), show Nat.blt 16 l.length = true by rw [Nat.blt_eq]; exact h16]; rfl
  · rw [dec_f (show ¬ 16 < (l.length : Int) by omega), show Nat.blt 16 l.length = false by rw [Bool.eq_false_iff, ne_eq, Nat.blt_eq]; exact h16, cond_false, cond_false]
    have h1 : iter (fun x => product_Check_L0 l x) 0 = some (bif l.all validB then .inl () else .inr 9) := by
      refine scan l P0 validB (fun i hi hq => ?_) (fun i hi hq => ?_) ?_
      · unfold product_Check_L0
        rw [dec_t (by omega), cond_true, gd_t (inB_t hi), Int.toNat_natCast]
        show ((product_Valid (l.getD i P0)).bind _) = _
        rw [valid_eq _ (h _ (gD_mem hi)), Option.bind_some, hq, w1 hi (by omega)]; rfl
      · unfold product_Check_L0
        rw [dec_t (by omega), cond_true, gd_t (inB_t hi), Int.toNat_natCast]
        show ((product_Valid (l.getD i P0)).bind _) = _
        rw [valid_eq _ (h _ (gD_mem hi)), Option.bind_some, hq]; rfl
      · unfold product_Check_L0
        rw [dec_f (by omega)]; rfl
    rw [h1, Option.bind_some]
    cases hv : l.all validB with
    | false => rfl
    | true =>
      simp only [cond_true, Sum.elim_inl, Bool.not_true, cond_false]
      have hlt : ∀ i, i < l.length → fndI l (l.getD i P0).1 = (fnd l (l.getD i P0).1 : Int) := fun i hi => by
        unfold fndI; rw [if_pos (Nat.lt_of_le_of_lt (fnd_le l i hi) hi)]
      have h2 : iter (fun x2 => product_Check_L1 l x2) 0 = some (bif (List.range l.length).all (fun i => Nat.beq (fnd l (l.getD i P0).1) i) then .inl () else .inr 7) := by
        refine iter_all (step := fun x2 => product_Check_L1 l x2) l.length (fun i => (i : Int)) _ (fun i hi _ hq => ?_) (fun i hi _ hq => ?_) (fun _ => ?_)
        · have hq := Nat.eq_of_beq_eq_true hq
          unfold product_Check_L1
          rw [dec_t (by omega), cond_true, gd_t (inB_t hi), Int.toNat_natCast]
          show ((product_Find l (l.getD i P0).1).bind _) = _
          rw [find_eq _ _ hl, Option.bind_some, hlt i hi, dec_f (by omega), cond_false, w1 hi (by omega)]
        · have hq : fnd l (l.getD i P0).1 ≠ i := fun e => by rw [e] at hq; simp at hq
          have hle := fnd_le l i hi
          unfold product_Check_L1
          rw [dec_t (by omega), cond_true, gd_t (inB_t hi), Int.toNat_natCast]
          show ((product_Find l (l.getD i P0).1).bind _) = _
          rw [find_eq _ _ hl, Option.bind_some, hlt i hi, dec_t (by omega)]; rfl
        · unfold product_Check_L1
          rw [dec_f (by omega)]; rfl
      rw [h2, Option.bind_some]
      cases (List.range l.length).all (fun i => Nat.beq (fnd l (l.getD i P0).1) i) <;> rfl
theorem rvalid_eq (p : Pro) (h : p.1.length ≤ 1000000) : ref04_Valid p = some (validB p) := by
  unfold ref04_Valid
  rw [rname_eq _ h, Option.bind_some]
  obtain ⟨x, d, e, c, f⟩ := p
  unfold validB okB rgB
  simp only
  have k1 : decide (400 ≤ d) = !decide (d < 400) := by rw [Bool.eq_iff_iff]; simp
  have k2 : decide (d ≤ 1200) = !decide (1200 < d) := by rw [Bool.eq_iff_iff]; simp
  have k3 : decide (0 ≤ e) = !decide (e < 0) := by rw [Bool.eq_iff_iff]; simp
  have k4 : decide (e ≤ 2000) = !decide (2000 < e) := by rw [Bool.eq_iff_iff]; simp
  have k5 : decide (0 ≤ c) = !decide (c < 0) := by rw [Bool.eq_iff_iff]; simp
  have k6 : decide (c ≤ 5000) = !decide (5000 < c) := by rw [Bool.eq_iff_iff]; simp
  have k7 : decide (1 ≤ f) = !decide (f < 1) := by rw [Bool.eq_iff_iff]; simp
  have k8 : decide (f ≤ 2000) = !decide (2000 < f) := by rw [Bool.eq_iff_iff]; simp
  rw [k1, k2, k3, k4, k5, k6, k7, k8]
  cases nameB x with
  | false => simp
  | true =>
    cases decide (d < 400) <;> cases decide (1200 < d) <;> cases decide (e < 0) <;> cases decide (2000 < e) <;> try rfl
    cases decide (c < 0) <;> cases decide (5000 < c) <;> cases decide (f < 1) <;> cases decide (2000 < f) <;> rfl
theorem rfind_eq (l : List Pro) (x : Str) (hl : l.length ≤ 1000000) : ref04_Find l x = some (fndI l x) := by
  unfold ref04_Find
  have h : iter (fun y => ref04_Find_L0 l x y) 0 = some (if l.findIdx (fun p => decide (p.1 = x)) < l.length then .inr ((l.findIdx (fun p => decide (p.1 = x)) : Nat) : Int) else .inl ()) := by
    refine iter_find (step := fun y => ref04_Find_L0 l x y) (ε := Unit ⊕ Int) l P0 (fun p => decide (p.1 = x)) (fin := .inl ()) (fun i => .inr (i : Int)) (fun i hi hq => ?_) (fun i hi hq => ?_) ?_
    · unfold ref04_Find_L0
      rw [dec_t (show (i : Int) < (l.length : Int) by omega), cond_true, gd_t (inB_t hi), Int.toNat_natCast, hq, cond_false, w1 hi (by omega)]
    · unfold ref04_Find_L0
      rw [dec_t (show (i : Int) < (l.length : Int) by omega), cond_true, gd_t (inB_t hi), Int.toNat_natCast, hq, cond_true]
    · unfold ref04_Find_L0
      rw [dec_f (by omega)]; rfl
  rw [h, Option.bind_some]
  unfold fndI fnd
  by_cases hf : l.findIdx (fun p => decide (p.1 = x)) < l.length
  · rw [if_pos hf, if_pos hf]; rfl
  · rw [if_neg hf, if_neg hf]; rfl
theorem rcheck_eq (l : List Pro) (h : ∀ p ∈ l, p.1.length ≤ 1000000) (hl : l.length ≤ 1000000) : ref04_Check l = some (chkB l) := by
  unfold ref04_Check chkB
  by_cases h16 : 16 < l.length
  · rw [dec_t (show 16 < (l.length : Int) by omega), show Nat.blt 16 l.length = true by rw [Nat.blt_eq]; exact h16]; rfl
  · rw [dec_f (show ¬ 16 < (l.length : Int) by omega), show Nat.blt 16 l.length = false by rw [Bool.eq_false_iff, ne_eq, Nat.blt_eq]; exact h16, cond_false, cond_false]
    have h1 : iter (fun x => ref04_Check_L0 l x) 0 = some (bif l.all validB then .inl () else .inr 9) := by
      refine scan l P0 validB (fun i hi hq => ?_) (fun i hi hq => ?_) ?_
      · unfold ref04_Check_L0
        rw [dec_t (by omega), cond_true, gd_t (inB_t hi), Int.toNat_natCast, rvalid_eq _ (h _ (gD_mem hi)), Option.bind_some, hq, w1 hi (by omega)]; rfl
      · unfold ref04_Check_L0
        rw [dec_t (by omega), cond_true, gd_t (inB_t hi), Int.toNat_natCast, rvalid_eq _ (h _ (gD_mem hi)), Option.bind_some, hq]; rfl
      · unfold ref04_Check_L0
        rw [dec_f (by omega)]; rfl
    rw [h1, Option.bind_some]
    cases hv : l.all validB with
    | false => rfl
    | true =>
      simp only [cond_true, Sum.elim_inl, Bool.not_true, cond_false]
      have hlt : ∀ i, i < l.length → fndI l (l.getD i P0).1 = (fnd l (l.getD i P0).1 : Int) := fun i hi => by
        unfold fndI; rw [if_pos (Nat.lt_of_le_of_lt (fnd_le l i hi) hi)]
      have h2 : iter (fun x2 => ref04_Check_L1 l x2) 0 = some (bif (List.range l.length).all (fun i => Nat.beq (fnd l (l.getD i P0).1) i) then .inl () else .inr 7) := by
        refine iter_all (step := fun x2 => ref04_Check_L1 l x2) l.length (fun i => (i : Int)) _ (fun i hi _ hq => ?_) (fun i hi _ hq => ?_) (fun _ => ?_)
        · have hq := Nat.eq_of_beq_eq_true hq
          unfold ref04_Check_L1
          rw [dec_t (by omega), cond_true, gd_t (inB_t hi), Int.toNat_natCast]
          show ((ref04_Find l (l.getD i P0).1).bind _) = _
          rw [rfind_eq _ _ hl, Option.bind_some, hlt i hi, hq, dec_t rfl, w1 hi (by omega)]; rfl
        · have hq : fnd l (l.getD i P0).1 ≠ i := fun e => by rw [e] at hq; simp at hq
          unfold ref04_Check_L1
          rw [dec_t (by omega), cond_true, gd_t (inB_t hi), Int.toNat_natCast]
          show ((ref04_Find l (l.getD i P0).1).bind _) = _
          rw [rfind_eq _ _ hl, Option.bind_some, hlt i hi, dec_f (by omega)]; rfl
        · unfold ref04_Check_L1
          rw [dec_f (by omega)]; rfl
      rw [h2, Option.bind_some]
      cases (List.range l.length).all (fun i => Nat.beq (fnd l (l.getD i P0).1) i) <;> rfl
end Go.Proofs.YtiojagjejddocaaGreatDoor
