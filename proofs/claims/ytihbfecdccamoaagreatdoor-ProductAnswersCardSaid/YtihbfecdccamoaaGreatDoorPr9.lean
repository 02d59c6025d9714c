/- Products: the functions and their references. No condition. -/
import Derived.Test.YtihbfecdccamoaaGreatDoorPr8
namespace Go.Proofs.YtihbfecdccamoaaGreatDoor
open Go Go.Sq
set_option linter.unusedVariables false

/-! ### The digits of a number are one list -/
theorem valD_lt : ∀ (l : List UInt8) (acc : Nat), acc * 10 ^ l.length ≤ valD acc l
  | [], acc => by rw [List.length_nil, Nat.pow_zero, Nat.mul_one]; exact Nat.le_refl _
  | c :: r, acc => by
    have h := valD_lt r (acc * 10 + (c.toNat - 48))
    show acc * 10 ^ (r.length + 1) ≤ valD (acc * 10 + (c.toNat - 48)) r
    have h2 : acc * 10 * 10 ^ r.length ≤ (acc * 10 + (c.toNat - 48)) * 10 ^ r.length := Nat.mul_le_mul_right _ (by omega)
    rw [Nat.pow_succ, Nat.mul_comm (10 ^ r.length) 10, ← Nat.mul_assoc]
    omega
theorem dig_nat {c : UInt8} (h : dig c = true) : 48 ≤ c.toNat ∧ c.toNat ≤ 57 := by
  unfold dig at h
  simpa only [Bool.and_eq_true, Nat.ble_eq] using h
theorem digs_uniq : ∀ (n : Nat) (D : List UInt8), Digs n D → D = Lib.decDigits n := by
  intro n
  induction n using Nat.strongRecOn with
  | ind n ih =>
    intro D h
    rcases List.eq_nil_or_concat D with rfl | ⟨E, c, rfl⟩
    · exact absurd rfl h.ne
    · rw [List.concat_eq_append] at h ⊢
      have hall := h.all
      rw [List.all_append, Bool.and_eq_true] at hall
      have hc : dig c = true := by simpa using hall.2
      obtain ⟨c1, c2⟩ := dig_nat hc
      have hv := h.val
      rw [valD_app] at hv
      have hcc : UInt8.ofNat (48 + (c.toNat - 48)) = c := by rw [show 48 + (c.toNat - 48) = c.toNat by omega]; simp
      cases hE : E with
      | nil =>
        subst hE
        have hv' : 0 * 10 + (c.toNat - 48) = n := hv
        rw [Lib.decDigits_one (by omega), show n = c.toNat - 48 by omega, hcc]; rfl
      | cons a r =>
        have hn0 : n ≠ 0 := by
          intro e
          have := h.z e
          rw [hE] at this
          simp at this
        have hhd : a ≠ 48 := by
          have := h.hd (by omega)
          rw [hE] at this
          simpa using this
        have hea : dig a = true := by
          have := hall.1
          rw [hE] at this
          simp only [List.all_cons, Bool.and_eq_true] at this
          exact this.1
        obtain ⟨a1, a2⟩ := dig_nat hea
        have ha48 : a.toNat ≠ 48 := fun e => hhd (by rw [← UInt8.toNat_inj]; exact e)
        have hval : 1 ≤ valD 0 E := by
          rw [hE]
          have := valD_lt r (0 * 10 + (a.toNat - 48))
          have h1 : 1 ≤ (0 * 10 + (a.toNat - 48)) * 10 ^ r.length := Nat.one_le_iff_ne_zero.2 (Nat.mul_ne_zero (by omega) (Nat.ne_of_gt (Nat.pow_pos (by omega))))
          show 1 ≤ valD (0 * 10 + (a.toNat - 48)) r
          omega
        have hdE : Digs (n / 10) E := by
          refine ⟨by rw [hE]; simp, hall.1, by omega, fun _ => by rw [hE]; exact hhd, fun e => by omega⟩
        have := ih (n / 10) (by omega) E hdE
        rw [← hE, Lib.decDigits, dif_neg (by omega), ← this, show n % 10 = c.toNat - 48 by omega, hcc]
theorem rtext_eq {n : Int} (h0 : 0 ≤ n) (h1 : n ≤ 9999999999999999) : ref03_Text n = some (Lib.itoa n) := by
  obtain ⟨D, h, _, e⟩ := text_eq n (by omega) h1
  rw [e, if_neg (by omega), itoa_nat h0, digs_uniq _ _ h, show n.natAbs = n.toNat by omega]

/-! ### The functions and their references -/
theorem rvalid_eq (p : Pro) (h : p.1.length ≤ 1000000) : ref04_Valid p = some (validB p) := by
  unfold ref04_Valid
  rw [rname_eq _ h, Option.bind_some]
  obtain ⟨x, d, e, c, f⟩ := p
  unfold validB okB rgB
  simp only
  have k1 : decide (400 ≤ d) = !decide (d < 400) := by rw [Bool.eq_iff_iff]; simp
  have k2 : decide (d ≤ 1200) = !decide (1200 < d) := by rw [Bool.eq_iff_iff]; simp
  have k3 : decide (0 ≤ e) = !decide (e < 0) := by rw [Bool.eq_iff_iff]; simp
  have k4 : decide (e ≤ 2000) = !decide (2000 < e) := by rw [Bool.eq_iff_iff]; simp
  have k5 : decide (0 ≤ c) = !decide (c < 0) := by rw [Bool.eq_iff_iff]; simp
  have k6 : decide (c ≤ 5000) = !decide (5000 < c) := by rw [Bool.eq_iff_iff]; simp
  have k7 : decide (1 ≤ f) = !decide (f < 1) := by rw [Bool.eq_iff_iff]; simp
  have k8 : decide (f ≤ 2000) = !decide (2000 < f) := by rw [Bool.eq_iff_iff]; simp
  rw [k1, k2, k3, k4, k5, k6, k7, k8]
  cases nameB x with
  | false => simp
  | true =>
    cases decide (d < 400) <;> cases decide (1200 < d) <;> cases decide (e < 0) <;> cases decide (2000 < e) <;> try rfl
    cases decide (c < 0) <;> cases decide (5000 < c) <;> cases decide (f < 1) <;> cases decide (2000 < f) <;> rfl
theorem rfind_eq (l : List Pro) (x : Str) (hl : l.length ≤ 1000000) : ref04_Find l x = some (fndI l x) := by
  unfold ref04_Find
  have h : iter (fun y => ref04_Find_L0 l x y) 0 = some (if l.findIdx (fun p => decide (p.1 = x)) < l.length then .inr ((l.findIdx (fun p => decide (p.1 = x)) : Nat) : Int) else .inl ()) := by
    refine iter_find (step := fun y => ref04_Find_L0 l x y) (ε := Unit ⊕ Int) l P0 (fun p => decide (p.1 = x)) (fin := .inl ()) (fun i => .inr (i : Int)) (fun i hi hq => ?_) (fun i hi hq => ?_) ?_
    · unfold ref04_Find_L0
      rw [dec_t (show (i : Int) < (l.length : Int) by omega), cond_true, gd_t (inB_t hi), Int.toNat_natCast, hq, cond_false, w1 hi (by omega)]
    · unfold ref04_Find_L0
      rw [dec_t (show (i : Int) < (l.length : Int) by omega), cond_true, gd_t (inB_t hi), Int.toNat_natCast, hq, cond_true]
    · unfold ref04_Find_L0
      rw [dec_f (by omega)]; rfl
  rw [h, Option.bind_some]
  unfold fndI fnd
  by_cases hf : l.findIdx (fun p => decide (p.1 = x)) < l.length
  · rw [if_pos hf, if_pos hf]; rfl
  · rw [if_neg hf, if_neg hf]; rfl
theorem rcheck_eq (l : List Pro) (h : ∀ p ∈ l, p.1.length ≤ 1000000) (hl : l.length ≤ 1000000) : ref04_Check l = some (chkB l) := by
  unfold ref04_Check chkB
  by_cases h16 : 16 < l.length
  · rw [dec_t (show 16 < (l.length : Int) by omega), show Nat.blt 16 l.length = true by rw [Nat.blt_eq]; exact h16]; rfl
  · rw [dec_f (show ¬ 16 < (l.length : Int) by omega), show Nat.blt 16 l.length = false by rw [Bool.eq_false_iff, ne_eq, Nat.blt_eq]; exact h16, cond_false, cond_false]
    have h1 : iter (fun x => ref04_Check_L0 l x) 0 = some (bif l.all validB then .inl () else .inr 9) := by
      refine scan l P0 validB (fun i hi hq => ?_) (fun i hi hq => ?_) ?_
      · unfold ref04_Check_L0
        rw [dec_t (by omega), cond_true, gd_t (inB_t hi), Int.toNat_natCast, rvalid_eq _ (h _ (gD_mem hi)), Option.bind_some, hq, w1 hi (by omega)]; rfl
      · unfold ref04_Check_L0
        rw [dec_t (by omega), cond_true, gd_t (inB_t hi), Int.toNat_natCast, rvalid_eq _ (h _ (gD_mem hi)), Option.bind_some, hq]; rfl
      · unfold ref04_Check_L0
        rw [dec_f (by omega)]; rfl
    rw [h1, Option.bind_some]
    cases hv : l.all validB with
    | false => rfl
    | true =>
      simp only [cond_true, Sum.elim_inl, Bool.not_true, cond_false]
      have hlt : ∀ i, i < l.length → fndI l (l.getD i P0).1 = (fnd l (l.getD i P0).1 : Int) := fun i hi => by
        unfold fndI; rw [if_pos (Nat.lt_of_le_of_lt (fnd_le l i hi) hi)]
      have h2 : iter (fun x2 => ref04_Check_L1 l x2) 0 = some (bif (List.range l.length).all (fun i => Nat.beq (fnd l (l.getD i P0).1) i) then .inl () else .inr 7) := by
        refine iter_all (step := fun x2 => ref04_Check_L1 l x2) l.length (fun i => (i : Int)) _ (fun i hi _ hq => ?_) (fun i hi _ hq => ?_) (fun _ => ?_)
        · have hq := Nat.eq_of_beq_eq_true hq
          unfold ref04_Check_L1
          rw [dec_t (by omega), cond_true, gd_t (inB_t hi), Int.toNat_natCast]
          show ((ref04_Find l (l.getD i P0).1).bind _) = _
          rw [rfind_eq _ _ hl, Option.bind_some, hlt i hi, hq, dec_t rfl, w1 hi (by omega)]; rfl
        · have hq : fnd l (l.getD i P0).1 ≠ i := fun e => by rw [e] at hq; simp at hq
          unfold ref04_Check_L1
          rw [dec_t (by omega), cond_true, gd_t (inB_t hi), Int.toNat_natCast]
          show ((ref04_Find l (l.getD i P0).1).bind _) = _
          rw [rfind_eq _ _ hl, Option.bind_some, hlt i hi, dec_f (by omega)]; rfl
        · unfold ref04_Check_L1
          rw [dec_f (by omega)]; rfl
      rw [h2, Option.bind_some]
      cases (List.range l.length).all (fun i => Nat.beq (fnd l (l.getD i P0).1) i) <;> rfl

/-! ### Format -/
theorem chk_valid {l : List Pro} (h : chkB l = 0) : (∀ p ∈ l, validB p = true) ∧ l.length ≤ 16 := by
  unfold chkB at h
  cases h1 : Nat.blt 16 l.length with
  | true => rw [h1] at h; cases h
  | false =>
    have h16 : ¬ 16 < l.length := by rw [Bool.eq_false_iff, ne_eq, Nat.blt_eq] at h1; exact h1
    cases h2 : l.all validB with
    | false => rw [h1, h2] at h; cases h
    | true => exact ⟨List.all_eq_true.1 h2, by omega⟩
def fmtS (l : List Pro) : Str × Int := bif !decide (chkB l = 0) then ([], chkB l) else (txt (l.map wOf), 0)
theorem fmt_len (l : List Pro) : (fmtS l).1.length ≤ 1264 := by
  unfold fmtS
  by_cases h : chkB l = 0
  · rw [dec_t h]
    obtain ⟨hv, hl⟩ := chk_valid h
    have := wOfs_txt hv
    show (txt (l.map wOf)).length ≤ 1264
    omega
  · rw [dec_f h]; simp
theorem fmt_eq (l : List Pro) (h : ∀ p ∈ l, p.1.length ≤ 1000000) (hl : l.length ≤ 1000000) : product_Format l = some (fmtS l) := by
  unfold product_Format fmtS
  rw [check_eq l h hl, Option.bind_some]
  by_cases hc : chkB l = 0
  · obtain ⟨hv, h16⟩ := chk_valid hc
    rw [dec_t hc]
    simp only [Bool.not_true, cond_false]
    rw [fm_loop0 l hv (by omega), Option.bind_some]
    have hbj : BJ (l.map wOf) := fun w hw => by
      refine ⟨?_, wOfs_sz hv w hw⟩
      obtain ⟨p, hp, rfl⟩ := List.mem_map.1 hw
      show 6 ≤ 1000000
      omega
    have ht := wOfs_txt hv
    rw [ljoin_eq _ hbj, join_txt (wOfs_proper hv) (by rw [List.length_map]; omega) (by omega)]; rfl
  · rw [dec_f hc]; rfl
noncomputable def rfStep (l : List Pro) (k : Nat) (x : Str × Int) : Option ((Str × Int) ⊕ Str) := ref04_Format_L1 l (k : Int) x.1 x.2
theorem joinS_one (a : Str) : joinS [a] = a := by simp [joinS, Lib.join, List.intercalate]
theorem rf_loop (l : List Pro) (k : Nat) {p : Pro} (hp : l.getD k P0 = p) (h : validB p = true) (s : Str) (hs : s.length ≤ 100000) :
    iter (rfStep l k) (s, 0) = some (s ++ 32 :: Lib.itoa p.2.1 ++ 32 :: Lib.itoa p.2.2.1 ++ 32 :: Lib.itoa p.2.2.2.1 ++ 32 :: Lib.itoa p.2.2.2.2) := by
  have v := valP h
  have l0 := itoa_len (n := p.2.1) (by have := v.d.1; omega) (by have := v.d.2; omega)
  have l1 := itoa_len (n := p.2.2.1) v.e.1 (by have := v.e.2; omega)
  have l2 := itoa_len (n := p.2.2.2.1) v.c.1 v.c.2
  have l3 := itoa_len (n := p.2.2.2.2) (by have := v.f.1; omega) (by have := v.f.2; omega)
  have gen : ∀ (i : Nat) (n : Int) (s : Str), rfStep l k (s, (i : Int)) = ((ref03_Text n).bind fun r2 => gd (Nat.ble (1 + r2.length) 9223372036854775807) <| gd (Nat.ble (s.length + (32 :: r2).length) 9223372036854775807) <| some (.inl (s ++ 32 :: r2, wi64 ((i : Int) + 1)))) → 0 ≤ n → n ≤ 5000 → s.length ≤ 200000 → i < 4 → rfStep l k (s, (i : Int)) = some (.inl (s ++ 32 :: Lib.itoa n, ((i + 1 : Nat) : Int))) := by
    intro i n s e h0 h1 hs hi
    have hln := itoa_len h0 h1
    rw [e, rtext_eq h0 (by omega), Option.bind_some, gd_t (Nat.ble_eq_true_of_le (by omega)), gd_t (Nat.ble_eq_true_of_le (by simp only [List.length_append, List.length_cons, List.length_nil]; omega)), wi (by omega)]; rfl
  subst hp
  have k0 := gen 0 (l.getD k P0).2.1 s rfl (by have := v.d.1; omega) (by have := v.d.2; omega) (by omega) (by omega)
  have k0' : rfStep l k (s, 0) = _ := k0
  rw [iter_inl k0']
  have k1 := gen 1 (l.getD k P0).2.2.1 (s ++ 32 :: Lib.itoa (l.getD k P0).2.1) rfl v.e.1 (by have := v.e.2; omega) (by simp only [List.length_append, List.length_cons, List.length_nil]; omega) (by omega)
  rw [iter_inl k1]
  have k2 := gen 2 (l.getD k P0).2.2.2.1 ((s ++ 32 :: Lib.itoa (l.getD k P0).2.1) ++ 32 :: Lib.itoa (l.getD k P0).2.2.1) rfl v.c.1 v.c.2 (by simp only [List.length_append, List.length_cons, List.length_nil]; omega) (by omega)
  rw [iter_inl k2]
  have k3 := gen 3 (l.getD k P0).2.2.2.2 (((s ++ 32 :: Lib.itoa (l.getD k P0).2.1) ++ 32 :: Lib.itoa (l.getD k P0).2.2.1) ++ 32 :: Lib.itoa (l.getD k P0).2.2.2.1) rfl (by have := v.f.1; omega) (by have := v.f.2; omega) (by simp only [List.length_append, List.length_cons, List.length_nil]; omega) (by omega)
  rw [iter_inl k3]
  exact iter_inr rfl
theorem rf_loop0 (l : List Pro) (hv : ∀ p ∈ l, validB p = true) (hl : l.length ≤ 16) : iter (fun x2 : Str × Int => ref04_Format_L0 l x2.1 x2.2) ([], 0) = some (txt (l.map wOf)) := by
  have h0 : (([] : Str), (0 : Int)) = (fun k : Nat => (txt ((l.take k).map wOf), (k : Int))) 0 := rfl
  rw [h0]
  refine iter_for (step := fun x2 : Str × Int => ref04_Format_L0 l x2.1 x2.2) l.length (fun k : Nat => (txt ((l.take k).map wOf), (k : Int))) (fun k hk => ?_) ?_
  · simp only
    have hp := hv _ (gD_mem (d := P0) hk)
    have hnl := (name_word (valP hp).nm).2
    have htk := wOfs_txt (l := l.take k) fun p hp => hv p (List.mem_of_mem_take hp)
    have hlk : (l.take k).length ≤ 16 := by rw [List.length_take]; omega
    unfold ref04_Format_L0
    rw [dec_t (show (k : Int) < (l.length : Int) by omega), cond_true, gd_t (inB_t hk), Int.toNat_natCast]
    show (gd (Nat.ble (8 + (l.getD k P0).1.length) 9223372036854775807) (gd (Nat.ble ((txt ((l.take k).map wOf)).length + ([112, 114, 111, 100, 117, 99, 116, 32] ++ (l.getD k P0).1).length) 9223372036854775807)
      ((iter (rfStep l k) (txt ((l.take k).map wOf) ++ ([112, 114, 111, 100, 117, 99, 116, 32] ++ (l.getD k P0).1), 0)).bind fun s3 => gd (Nat.ble (s3.length + 1) 9223372036854775807) (some (.inl (s3 ++ [10], wi64 ((k : Int) + 1))) : Option ((Str × Int) ⊕ Str))))) = _
    rw [gd_t (Nat.ble_eq_true_of_le (by omega)), gd_t (Nat.ble_eq_true_of_le (by simp only [List.length_append, List.length_cons, List.length_nil]; omega)), rf_loop l k rfl hp _ (by simp only [List.length_append, List.length_cons, List.length_nil]; omega), Option.bind_some]
    have v := valP hp
    have l0 := itoa_len (n := (l.getD k P0).2.1) (by have := v.d.1; omega) (by have := v.d.2; omega)
    have l1 := itoa_len (n := (l.getD k P0).2.2.1) v.e.1 (by have := v.e.2; omega)
    have l2 := itoa_len (n := (l.getD k P0).2.2.2.1) v.c.1 v.c.2
    have l3 := itoa_len (n := (l.getD k P0).2.2.2.2) (by have := v.f.1; omega) (by have := v.f.2; omega)
    rw [gd_t (Nat.ble_eq_true_of_le (by simp only [List.length_append, List.length_cons, List.length_nil]; omega)), w1 hk (by omega), take_next P0 hk, List.map_append, txt_app]
    have ew : txt ([l.getD k P0].map wOf) = [112, 114, 111, 100, 117, 99, 116, 32] ++ (l.getD k P0).1 ++ 32 :: Lib.itoa (l.getD k P0).2.1 ++ 32 :: Lib.itoa (l.getD k P0).2.2.1 ++ 32 :: Lib.itoa (l.getD k P0).2.2.2.1 ++ 32 :: Lib.itoa (l.getD k P0).2.2.2.2 ++ [10] := by
      rw [List.map_cons, List.map_nil, txt_one]
      unfold wOf
      rw [joinS_cons2, joinS_cons2, joinS_cons2, joinS_cons2, joinS_cons2, joinS_one]
      simp
    rw [ew]
    simp only [List.append_assoc]
  · simp only
    unfold ref04_Format_L0
    rw [dec_f (by omega), List.take_length]; rfl
theorem rfmt_eq (l : List Pro) (h : ∀ p ∈ l, p.1.length ≤ 1000000) (hl : l.length ≤ 1000000) : ref04_Format l = some (fmtS l) := by
  unfold ref04_Format fmtS
  rw [rcheck_eq l h hl, Option.bind_some]
  by_cases hc : chkB l = 0
  · obtain ⟨hv, h16⟩ := chk_valid hc
    rw [dec_t hc]
    simp only [Bool.not_true, cond_false]
    rw [rf_loop0 l hv h16]; rfl
  · rw [dec_f hc]; rfl
end Go.Proofs.YtihbfecdccamoaaGreatDoor
