/- Accounts: an entry is posted. No condition. -/
import Derived.Test.YtmleldfhkangbaaAc1
namespace Go.Proofs.Ytmleldfhkangbaa
open Go Go.Sq

theorem half_nat2 {i j : Nat} (h : i + j ≤ 4611686018427387904) : wi64 (Int.fdiv (wu64 (wi64 ((i : Int) + (j : Int)))) (2 ^ shAmt .u64 1)) = (((i + j) / 2 : Nat) : Int) := half_nat h

/-- Where a shipper's account is, or would be. -/
structure LbP (l : List Acc) (s : List UInt8) (k : Nat) : Prop where
  le : k ≤ l.length
  lt : ∀ j, j < k → Op.bytesLess (l.getD j d0).1 s = true
  ge : ∀ j, k ≤ j → j < l.length → Op.bytesLess (l.getD j d0).1 s = false
theorem LbP.uniq {l : List Acc} {s : List UInt8} {k k' : Nat} (h : LbP l s k) (h' : LbP l s k') : k = k' := by
  rcases Nat.lt_trichotomy k k' with hk | hk | hk
  · have a := h'.lt k hk
    have b := h.ge k (Nat.le_refl _) (by have := h'.le; omega)
    rw [a] at b; cases b
  · exact hk
  · have a := h.lt k' hk
    have b := h'.ge k' (Nat.le_refl _) (by have := h.le; omega)
    rw [a] at b; cases b

theorem find_cmp (a : Acc) (s : List UInt8) : (account_find_1 a s).bind (fun y => some y) = some (Lib.compareBytes a.1 s) := rfl

theorem bs_find {l : List Acc} {s : List UInt8} (hv : ValidP l) : ∃ k : Nat, LbP l s k ∧ account_find l s = some ((k : Int), decide (k < l.length ∧ (l.getD k d0).1 = s)) := by
  have hn := hv.n
  have key : ∃ e, iter (fun x2 : Int × Int => slices_BinarySearchFunc_api_Account_api_Account_string_L0 l s (fun h => (account_find_1 h.1 h.2.1).bind fun y => some y) x2.1 x2.2) (0, (l.length : Int)) = some e ∧ ∃ k : Nat, e = (k : Int) ∧ LbP l s k := by
    refine iter_inv (fun x => ∃ i j : Nat, x = ((i : Int), (j : Int)) ∧ i ≤ j ∧ j ≤ l.length ∧ (∀ q, q < i → Op.bytesLess (l.getD q d0).1 s = true) ∧ (∀ q, j ≤ q → q < l.length → Op.bytesLess (l.getD q d0).1 s = false)) (fun x => (x.2 - x.1).toNat) _ ?_ ⟨0, l.length, rfl, by omega, by omega, by omega, by omega⟩
    rintro _ ⟨i, j, rfl, h1, h2, h3, h4⟩
    unfold slices_BinarySearchFunc_api_Account_api_Account_string_L0
    simp only
    by_cases hij : i < j
    · right
      have hm : (i + j) / 2 < l.length := by omega
      simp only [dec_t (show (i : Int) < (j : Int) by omega), cond_true, half_nat2 (i := i) (j := j) (by omega), gd_t (inB_t hm), Int.toNat_natCast]
      rw [show (account_find_1 (l.getD ((i + j) / 2) d0) s).bind (fun y => some y) = some (Lib.compareBytes (l.getD ((i + j) / 2) d0).1 s) from rfl]
      simp only [Option.bind_some]
      by_cases hc : Op.bytesLess (l.getD ((i + j) / 2) d0).1 s = true
      · rw [dec_t ((cmp_spec _ _).1.2 hc), wi (by omega)]
        refine ⟨_, rfl, ⟨(i + j) / 2 + 1, j, rfl, by omega, h2, fun q hq => ?_, h4⟩, by simp only; omega⟩
        by_cases e : q = (i + j) / 2
        · rw [e]; exact hc
        · by_cases e2 : q < (i + j) / 2
          · exact bl_trans (hv.lt q _ e2 hm) hc
          · omega
      · rw [dec_f (fun h => hc ((cmp_spec _ _).1.1 h))]
        refine ⟨_, rfl, ⟨i, (i + j) / 2, rfl, by omega, by omega, h3, fun q hq hql => ?_⟩, by simp only; omega⟩
        rw [← Bool.not_eq_true]
        intro hb
        by_cases e : q = (i + j) / 2
        · rw [e] at hb; exact hc hb
        · exact hc (bl_trans (hv.lt _ q (by omega) hql) hb)
    · left
      obtain rfl : i = j := by omega
      exact ⟨(i : Int), by simp only [dec_f (show ¬ (i : Int) < (i : Int) by omega), cond_false], i, rfl, h2, h3, h4⟩
  obtain ⟨_, q, k, rfl, hk⟩ := key
  refine ⟨k, hk, ?_⟩
  unfold account_find slices_BinarySearchFunc_api_Account_api_Account_string
  rw [q]
  simp only [Option.bind_some]
  by_cases hkl : k < l.length
  · rw [dec_t (show (k : Int) < (l.length : Int) by omega), gd_t (inB_t hkl), Int.toNat_natCast, show (account_find_1 (l.getD k d0) s).bind (fun y => some y) = some (Lib.compareBytes (l.getD k d0).1 s) from rfl]
    simp only [cond_true, Option.bind_some]
    congr 2
    by_cases e : (l.getD k d0).1 = s
    · rw [dec_t ((cmp_spec _ _).2.2 e), dec_t ⟨hkl, e⟩]
    · rw [dec_f (fun h => e ((cmp_spec _ _).2.1 h)), dec_f (fun h => e h.2)]
  · rw [dec_f (show ¬ (k : Int) < (l.length : Int) by omega), dec_f (fun h => hkl h.1)]; rfl

theorem lin_find {l : List Acc} {e : Ent} (hv : ValidP l) {k : Nat} (hk : LbP l e.1 k) : iter (fun x => ref39_Post_L0 l e x) 0 = some (k : Int) := by
  have hn := hv.n
  have hkl := hk.le
  have := iter_for (step := fun x => ref39_Post_L0 l e x) k (fun i => (i : Int)) (e := (k : Int)) (fun i hi => by
      unfold ref39_Post_L0
      simp only [dec_t (show (i : Int) < (l.length : Int) by omega), cond_true, gd_t (inB_t (show i < l.length by omega)), Int.toNat_natCast, hk.lt i hi, Option.bind_some]
      rw [wi (by omega)]; rfl) (by
      unfold ref39_Post_L0
      by_cases h : k < l.length
      · simp only [dec_t (show (k : Int) < (l.length : Int) by omega), cond_true, gd_t (inB_t h), Int.toNat_natCast, hk.ge k (Nat.le_refl _) h, Option.bind_some, cond_false]
      · simp only [dec_f (show ¬ (k : Int) < (l.length : Int) by omega), cond_false, Option.bind_some])
  simpa using this

/-- An entry is added to an account. -/
def postedP (a : Acc) (e : Ent) : Acc :=
  if e.2.1 = 1 then (a.1, (wi64 (a.2.1 + e.2.2), a.2.2)) else if e.2.1 = 2 then (a.1, (a.2.1, (wi64 (a.2.2.1 + e.2.2), a.2.2.2)))
  else if e.2.1 = 3 then (a.1, (a.2.1, (a.2.2.1, (wi64 (a.2.2.2.1 + e.2.2), a.2.2.2.2)))) else if e.2.1 = 4 then (a.1, (a.2.1, (a.2.2.1, (a.2.2.2.1, wi64 (a.2.2.2.2 + e.2.2))))) else a
theorem posted_eq (a : Acc) (e : Ent) : account_posted a e = some (postedP a e) := by
  unfold account_posted postedP
  by_cases h1 : e.2.1 = 1
  · simp [h1]
  · by_cases h2 : e.2.1 = 2
    · simp [h2]
    · by_cases h3 : e.2.1 = 3
      · simp [h3]
      · by_cases h4 : e.2.1 = 4
        · simp [h4]
        · simp [h1, h2, h3, h4]
theorem posted_1 (a : Acc) (e : Ent) : (postedP a e).1 = a.1 := by
  unfold postedP
  split
  · rfl
  · split
    · rfl
    · split
      · rfl
      · split <;> rfl

theorem clone_eq {s : List Acc} (h : s.length ≤ 1000000) : slices_Clone_api_Account_api_Account s = some s := by
  unfold slices_Clone_api_Account_api_Account
  have hf : fits (0 + s.length) 48 = true := fits_t (by omega)
  rw [hf]
  cases s with
  | nil =>
    show bothO (some []) (some ([] ++ [])) = _
    unfold bothO
    exact if_pos rfl
  | cons a s => rfl

/-- The accounts behind an entry: 27 is ErrAccount, 4 is ErrLimit. -/
structure PostP (l : List Acc) (e : Ent) (r : List Acc × Int) : Prop where
  bad : ¬ (ValidP l ∧ entP e = true) → r = (l, 27)
  good : ValidP l → entP e = true → ∃ k, LbP l e.1 k ∧
    ((k < l.length ∧ (l.getD k d0).1 = e.1 ∧ r = if accP (postedP (l.getD k d0) e) = true then (l.set k (postedP (l.getD k d0) e), 0) else (l, 4)) ∨
     (¬ (k < l.length ∧ (l.getD k d0).1 = e.1) ∧ r = if accP (postedP (e.1, (0, (0, (0, 0)))) e) = true ∧ l.length ≠ 64 then (l.take k ++ postedP (e.1, (0, (0, (0, 0)))) e :: l.drop k, 0) else (l, 4)))

theorem set_mid {A : Type} (P Q : List A) (x y : A) : (P ++ x :: Q).set P.length y = P ++ y :: Q := by
  induction P with
  | nil => rfl
  | cons a P ih => simp only [List.cons_append, List.length_cons, List.set_cons_succ, ih]
theorem get_mid (P Q : List Acc) (x : Acc) : (P ++ x :: Q).getD P.length d0 = x := by
  rw [gD_app, if_neg (Nat.lt_irrefl _), Nat.sub_self]; rfl

theorem post_both {l : List Acc} {e : Ent} (hl : l.length ≤ 100000) : ∃ r : List Acc × Int, account_Post l e = some (r.2, r.1) ∧ ref39_Post l e = some r ∧ PostP l e r := by
  unfold account_Post ref39_Post
  rw [clone_eq (by omega), valid_eq (by omega), rvalid_eq (by omega)]
  simp only [Option.bind_some]
  rw [show allocate_Entry (e.1, (e.2.1, e.2.2)) = some (entP e) from ent_eq e, show ref38_Right (e.1, (e.2.1, e.2.2)) = some (entP e) from rright_eq e]
  by_cases hv : validB l = true
  · have hv' := validB_iff.1 hv
    rw [hv]
    by_cases he : entP e = true
    · rw [he]
      obtain ⟨k, hk, hf⟩ := bs_find (s := e.1) hv'
      have hn := hv'.n
      have hkl := hk.le
      have hL := lin_find hv' hk
      have hkinds : e.2.1 = 1 ∨ e.2.1 = 2 ∨ e.2.1 = 3 ∨ e.2.1 = 4 := by
        simp only [entP, Bool.and_eq_true, Bool.or_eq_true, decide_eq_true_eq] at he
        rcases he.1 with h | h
        · rcases h.1 with h | h | h
          · exact .inl h
          · exact .inr (.inl h)
          · exact .inr (.inr (.inl h))
        · exact .inr (.inr (.inr h.1))
      have hset : ∀ (s5 : List Acc), k < s5.length → (bif decide (e.2.1 = 1) then
          gd (inB (k : Int) s5.length) <| gd (inB (k : Int) s5.length) <| some (s5.set (k : Int).toNat ((s5.getD (k : Int).toNat ([], (0, (0, (0, 0))))).1, (wi64 ((((s5.getD (k : Int).toNat ([], (0, (0, (0, 0))))).2).1) + e.2.2), ((s5.getD (k : Int).toNat ([], (0, (0, (0, 0))))).2).2)))
        else Option.bind (α := List Acc) (bif decide (e.2.1 = 2) then
            gd (inB (k : Int) s5.length) <| gd (inB (k : Int) s5.length) <| some (s5.set (k : Int).toNat ((s5.getD (k : Int).toNat ([], (0, (0, (0, 0))))).1, (((s5.getD (k : Int).toNat ([], (0, (0, (0, 0))))).2).1, (wi64 (((((s5.getD (k : Int).toNat ([], (0, (0, (0, 0))))).2).2).1) + e.2.2), (((s5.getD (k : Int).toNat ([], (0, (0, (0, 0))))).2).2).2))))
          else Option.bind (α := List Acc) (bif decide (e.2.1 = 3) then
              gd (inB (k : Int) s5.length) <| gd (inB (k : Int) s5.length) <| some (s5.set (k : Int).toNat ((s5.getD (k : Int).toNat ([], (0, (0, (0, 0))))).1, (((s5.getD (k : Int).toNat ([], (0, (0, (0, 0))))).2).1, ((((s5.getD (k : Int).toNat ([], (0, (0, (0, 0))))).2).2).1, (wi64 ((((((s5.getD (k : Int).toNat ([], (0, (0, (0, 0))))).2).2).2).1) + e.2.2), ((((s5.getD (k : Int).toNat ([], (0, (0, (0, 0))))).2).2).2).2)))))
            else
              gd (inB (k : Int) s5.length) <| gd (inB (k : Int) s5.length) <| some (s5.set (k : Int).toNat ((s5.getD (k : Int).toNat ([], (0, (0, (0, 0))))).1, (((s5.getD (k : Int).toNat ([], (0, (0, (0, 0))))).2).1, ((((s5.getD (k : Int).toNat ([], (0, (0, (0, 0))))).2).2).1, (((((s5.getD (k : Int).toNat ([], (0, (0, (0, 0))))).2).2).2).1, wi64 ((((((s5.getD (k : Int).toNat ([], (0, (0, (0, 0))))).2).2).2).2) + e.2.2))))))) fun s6 => some s6) fun s7 => some s7) = some (s5.set k (postedP (s5.getD k d0) e)) := by
        intro s5 hk5
        simp only [gd_t (inB_t hk5), Int.toNat_natCast]
        unfold postedP
        rcases hkinds with h | h | h | h
        · simp [h]
        · simp [h]
        · simp [h]
        · simp [h]
      simp only [Bool.not_true, cond_false, cond_true, Option.bind_some, hf, hL]
      rw [gd_t (show fits (0 + l.length) 48 = true from fits_t (by omega))]
      by_cases hfd : k < l.length ∧ (l.getD k d0).1 = e.1
      · -- there is an account
        rw [dec_t hfd]
        have e1 : (bif decide ((k : Int) = (l.length : Int)) then some (true, [] ++ l) else gd (inB (k : Int) l.length) <| some ((!decide ((l.getD (k : Int).toNat ([], (0, (0, (0, 0))))).1 = e.1)), [] ++ l)) = some (false, l) := by
          rw [dec_f (show ¬ (k : Int) = (l.length : Int) by omega), gd_t (inB_t hfd.1), Int.toNat_natCast, dec_t hfd.2]; rfl
        refine ⟨if accP (postedP (l.getD k d0) e) = true then (l.set k (postedP (l.getD k d0) e), 0) else (l, 4), ?_, ?_, ?_⟩
        · simp only [cond_true, gd_t (inB_t hfd.1), Int.toNat_natCast, Option.bind_some]
          rw [show account_posted ((l.getD k d0).1, (((l.getD k d0).2).1, ((((l.getD k d0).2).2).1, (((((l.getD k d0).2).2).2).1, ((((l.getD k d0).2).2).2).2)))) (e.1, (e.2.1, e.2.2)) = some (postedP (l.getD k d0) e) from posted_eq _ _]
          simp only [Option.bind_some]
          rw [show ∀ q : Acc, account_valid (q.1, (q.2.1, (q.2.2.1, (q.2.2.2.1, q.2.2.2.2)))) = some (accP q) from fun q => acc_eq q]
          cases accP (postedP (l.getD k d0) e)
          · rfl
          · simp only [Option.bind_some, Bool.not_true, cond_false, gd_t (inB_t hfd.1)]
            rfl
        · rw [e1]
          simp only [Option.bind_some, cond_false]
          rw [hset l hfd.1]
          simp only [Option.bind_some, List.length_set]
          rw [dec_f (show ¬ (64 : Int) < (l.length : Int) by omega), gd_t (inB_t hfd.1), Int.toNat_natCast, gD_set, if_pos ⟨rfl, hfd.1⟩, right_eq]
          cases accP (postedP (l.getD k d0) e)
          · rfl
          · rfl
        · exact ⟨fun h => absurd ⟨hv', he⟩ h, fun _ _ => ⟨k, hk, .inl ⟨hfd.1, hfd.2, rfl⟩⟩⟩
      · -- there is none
        rw [dec_f hfd]
        have e1 : (bif decide ((k : Int) = (l.length : Int)) then some (true, [] ++ l) else gd (inB (k : Int) l.length) <| some ((!decide ((l.getD (k : Int).toNat ([], (0, (0, (0, 0))))).1 = e.1)), [] ++ l)) = some (true, l) := by
          by_cases hkn : k = l.length
          · rw [dec_t (show (k : Int) = (l.length : Int) by omega)]; rfl
          · rw [dec_f (show ¬ (k : Int) = (l.length : Int) by omega), gd_t (inB_t (show k < l.length by omega)), Int.toNat_natCast, dec_f (fun h => hfd ⟨by omega, h⟩)]; rfl
        have htl : (l.take k).length = k := by rw [List.length_take]; omega
        refine ⟨if accP (postedP (e.1, (0, (0, (0, 0)))) e) = true ∧ l.length ≠ 64 then (l.take k ++ postedP (e.1, (0, (0, (0, 0)))) e :: l.drop k, 0) else (l, 4), ?_, ?_, ?_⟩
        · simp only [cond_false, Option.bind_some, Bool.not_false, cond_true]
          rw [show account_posted (e.1, (0, (0, (0, 0)))) (e.1, (e.2.1, e.2.2)) = some (postedP (e.1, (0, (0, (0, 0)))) e) from posted_eq _ _]
          simp only [Option.bind_some]
          rw [show ∀ q : Acc, account_valid (q.1, (q.2.1, (q.2.2.1, (q.2.2.2.1, q.2.2.2.2)))) = some (accP q) from fun q => acc_eq q]
          cases ha : accP (postedP (e.1, (0, (0, (0, 0)))) e)
          · simp only [Option.bind_some, Bool.not_false, cond_true]
            rw [if_neg (fun h => by cases h.1)]
          · simp only [Option.bind_some, Bool.not_true, cond_false]
            by_cases h64 : l.length = 64
            · rw [dec_t (show (l.length : Int) = 64 by omega), if_neg (fun h => h.2 h64)]; rfl
            · rw [dec_f (show ¬ (l.length : Int) = 64 by omega), if_pos (by exact ⟨trivial, h64⟩)]
              simp only [cond_false, decide_true, Bool.true_and, Int.toNat_natCast]
              rw [gd_t (show cutG none (some (.i64, (k : Int))) l.length = true by unfold cutG; simp only [Bool.and_eq_true, decide_eq_true_eq]; omega),
                gd_t (show cutG (some (.i64, (k : Int))) none l.length = true by unfold cutG; simp only [Bool.and_eq_true, decide_eq_true_eq]; omega), gd_t (fits_t (by rw [htl]; omega)), gd_t (fits_t (by simp; omega))]
              simp only [List.append_assoc, List.cons_append, List.nil_append]
        · rw [e1]
          simp only [Option.bind_some, cond_true, Int.toNat_natCast, List.nil_append]
          rw [gd_t (show cutG none (some (.i64, (k : Int))) l.length = true by unfold cutG; simp only [Bool.and_eq_true, decide_eq_true_eq]; omega), gd_t (fits_t (by rw [htl]; omega)), gd_t (fits_t (by rw [htl]; omega)),
                gd_t (show cutG (some (.i64, (k : Int))) none l.length = true by unfold cutG; simp only [Bool.and_eq_true, decide_eq_true_eq]; omega), gd_t (fits_t (by simp; omega))]
          simp only [Option.bind_some, List.append_assoc, List.cons_append, List.nil_append]
          have hlen : (l.take k ++ (e.1, (0, (0, (0, 0)))) :: l.drop k).length = l.length + 1 := by simp; omega
          have hg : (l.take k ++ (e.1, (0, (0, (0, 0)))) :: l.drop k).getD k d0 = (e.1, (0, (0, (0, 0)))) := by
            have := get_mid (l.take k) (l.drop k) (e.1, (0, (0, (0, 0))))
            rwa [htl] at this
          have hs := set_mid (l.take k) (l.drop k) (e.1, (0, (0, (0, 0)))) (postedP (e.1, (0, (0, (0, 0)))) e)
          rw [htl] at hs
          have h5 := hset (l.take k ++ (e.1, (0, (0, (0, 0)))) :: l.drop k) (by omega)
          rw [hg, hs] at h5
          simp only [Int.toNat_natCast] at h5
          rw [h5]
          have hlen2 : (l.take k ++ postedP (e.1, (0, (0, (0, 0)))) e :: l.drop k).length = l.length + 1 := by simp; omega
          have hg2 : (l.take k ++ postedP (e.1, (0, (0, (0, 0)))) e :: l.drop k).getD k d0 = postedP (e.1, (0, (0, (0, 0)))) e := by
            have := get_mid (l.take k) (l.drop k) (postedP (e.1, (0, (0, (0, 0)))) e)
            rwa [htl] at this
          simp only [Option.bind_some, hlen2]
          by_cases h64 : l.length = 64
          · rw [dec_t (show (64 : Int) < ((l.length + 1 : Nat) : Int) by omega), if_neg (fun h => h.2 h64)]; rfl
          · rw [dec_f (show ¬ (64 : Int) < ((l.length + 1 : Nat) : Int) by omega), gd_t (inB_t (show k < l.length + 1 by omega)), hg2, right_eq]
            cases ha : accP (postedP (e.1, (0, (0, (0, 0)))) e)
            · rw [if_neg (fun h => by cases h.1)]; rfl
            · rw [if_pos ⟨rfl, h64⟩]; rfl
        · exact ⟨fun h => absurd ⟨hv', he⟩ h, fun _ _ => ⟨k, hk, .inr ⟨hfd, rfl⟩⟩⟩
    · rw [Bool.not_eq_true] at he
      rw [he]
      exact ⟨(l, 27), rfl, rfl, fun _ => rfl, fun _ h => by rw [he] at h; cases h⟩
  · have hv2 := hv
    rw [Bool.not_eq_true] at hv
    rw [hv]
    exact ⟨(l, 27), rfl, rfl, fun _ => rfl, fun h => absurd (validB_iff.2 h) hv2⟩
end Go.Proofs.Ytmleldfhkangbaa
