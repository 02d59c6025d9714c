/- Accounts: books, sums, closing; the law AccountMade. No condition. -/
import Derived.Test.YtmleldfhkangbaaAc2
namespace Go.Proofs.Ytmleldfhkangbaa
open Go Go.Sq

/-- The accounts behind an entry, and the error. -/
noncomputable def postF (l : List Acc) (e : Ent) : List Acc × Int := (ref39_Post l e).getD ([], 0)
theorem post_eq {l : List Acc} {e : Ent} (hl : l.length ≤ 100000) : account_Post l e = some ((postF l e).2, (postF l e).1) ∧ ref39_Post l e = some (postF l e) ∧ PostP l e (postF l e) := by
  obtain ⟨r, h1, h2, h3⟩ := post_both (e := e) hl
  have : postF l e = r := by unfold postF; rw [h2]; rfl
  rw [this]; exact ⟨h1, h2, h3⟩
theorem post_len {l : List Acc} {e : Ent} (hl : l.length ≤ 100000) : (postF l e).1.length ≤ l.length + 1 := by
  obtain ⟨_, _, h⟩ := post_eq (e := e) hl
  by_cases hg : ValidP l ∧ entP e = true
  · obtain ⟨k, hk, ⟨_, _, h3⟩ | ⟨_, h3⟩⟩ := h.good hg.1 hg.2
    · rw [h3]; split <;> simp
    · have := hk.le
      rw [h3]; split
      · simp; omega
      · simp
  · rw [h.bad hg]; simp
noncomputable def bookF : List Ent → List Acc → List Acc × Int
  | [], a => (a, 0)
  | e :: r, a => if (postF a e).2 = 0 then bookF r (postF a e).1 else ([], (postF a e).2)
noncomputable def bookA (l : List Ent) : List Acc × Int := if 1000 < l.length then ([], 4) else bookF l []

theorem book_step {l : List Ent} {i : Nat} {a : List Acc} (hi : i < l.length) : bookF (l.drop i) a = if (postF a (l.getD i e0)).2 = 0 then bookF (l.drop (i + 1)) (postF a (l.getD i e0)).1 else ([], (postF a (l.getD i e0)).2) := by
  rw [gD_eq hi, List.drop_eq_getElem_cons hi]; rfl
theorem book_eq (l : List Ent) : account_Book l = some (bookA l) := by
  unfold account_Book bookA
  by_cases h : 1000 < l.length
  · rw [dec_t (show (1000 : Int) < (l.length : Int) by omega), if_pos h]; rfl
  rw [dec_f (show ¬ (1000 : Int) < (l.length : Int) by omega), if_neg h]
  have key : ∃ s, iter (fun x : Int × List Acc => account_Book_L0 l x.1 x.2) (0, []) = some s ∧ s.elim (fun s2 => (s2, 0)) (fun s3 => s3) = bookF l [] := by
    refine iter_inv (fun x => ∃ i : Nat, x.1 = (i : Int) ∧ i ≤ l.length ∧ x.2.length ≤ i ∧ bookF (l.drop i) x.2 = bookF l []) (fun x => ((l.length : Int) - x.1).toNat) _ ?_ ⟨0, rfl, by omega, by simp, by simp⟩
    rintro ⟨x, out⟩ ⟨i, h1, h2, h3, h4⟩
    simp only at h1 h3 h4
    subst h1
    unfold account_Book_L0
    simp only
    by_cases hi : i < l.length
    · have hp := post_eq (l := out) (e := l.getD i e0) (by omega)
      have hl := post_len (l := out) (e := l.getD i e0) (by omega)
      rw [book_step hi] at h4
      simp only [dec_t (show (i : Int) < (l.length : Int) by omega), cond_true, gd_t (inB_t hi), Int.toNat_natCast]
      rw [show account_Post out ((l.getD i e0).1, (((l.getD i e0).2).1, ((l.getD i e0).2).2)) = some ((postF out (l.getD i e0)).2, (postF out (l.getD i e0)).1) from hp.1]
      simp only [Option.bind_some]
      by_cases hz : (postF out (l.getD i e0)).2 = 0
      · right
        rw [if_pos hz] at h4
        rw [dec_t hz, wi (by omega)]
        exact ⟨_, rfl, ⟨i + 1, rfl, by omega, by simp only; omega, h4⟩, by simp only; omega⟩
      · left
        rw [if_neg hz] at h4
        rw [dec_f hz]
        exact ⟨_, rfl, h4⟩
    · left
      rw [List.drop_of_length_le (by omega)] at h4
      exact ⟨.inl out, by simp only [dec_f (show ¬ (i : Int) < (l.length : Int) by omega), cond_false], h4⟩
  obtain ⟨s, q1, q2⟩ := key
  rw [q1, ← q2]
  cases s <;> rfl
theorem rbook_eq (l : List Ent) : ref39_Book l = some (bookA l) := by
  unfold ref39_Book bookA
  by_cases h : 1000 < l.length
  · rw [dec_t (show (1000 : Int) < (l.length : Int) by omega), if_pos h]; rfl
  rw [dec_f (show ¬ (1000 : Int) < (l.length : Int) by omega), if_neg h]
  have key : ∃ s, iter (fun x : List Acc × Int => ref39_Book_L0 l x.1 x.2) ([], 0) = some s ∧ s.elim (fun s2 => (s2, 0)) (fun s3 => s3) = bookF l [] := by
    refine iter_inv (fun x => ∃ i : Nat, x.2 = (i : Int) ∧ i ≤ l.length ∧ x.1.length ≤ i ∧ bookF (l.drop i) x.1 = bookF l []) (fun x => ((l.length : Int) - x.2).toNat) _ ?_ ⟨0, rfl, by omega, by simp, by simp⟩
    rintro ⟨out, x⟩ ⟨i, h1, h2, h3, h4⟩
    simp only at h1 h3 h4
    subst h1
    unfold ref39_Book_L0
    simp only
    by_cases hi : i < l.length
    · have hp := post_eq (l := out) (e := l.getD i e0) (by omega)
      have hl := post_len (l := out) (e := l.getD i e0) (by omega)
      rw [book_step hi] at h4
      simp only [dec_t (show (i : Int) < (l.length : Int) by omega), cond_true, gd_t (inB_t hi), Int.toNat_natCast, hp.2.1, Option.bind_some]
      by_cases hz : (postF out (l.getD i e0)).2 = 0
      · right
        rw [if_pos hz] at h4
        rw [dec_t hz, wi (by omega)]
        exact ⟨_, rfl, ⟨i + 1, rfl, by omega, by simp only; omega, h4⟩, by simp only; omega⟩
      · left
        rw [if_neg hz] at h4
        rw [dec_f hz]
        exact ⟨_, rfl, h4⟩
    · left
      rw [List.drop_of_length_le (by omega)] at h4
      exact ⟨.inl out, by simp only [dec_f (show ¬ (i : Int) < (l.length : Int) by omega), cond_false], h4⟩
  obtain ⟨s, q1, q2⟩ := key
  rw [q1, ← q2]
  cases s <;> rfl

/-! ### Sums -/
def col1 (l : List Acc) : List Int := l.map fun a => a.2.1
def col2 (l : List Acc) : List Int := l.map fun a => a.2.2.1
def col3 (l : List Acc) : List Int := l.map fun a => a.2.2.2.1
def col4 (l : List Acc) : List Int := l.map fun a => a.2.2.2.2
def sumA (l : List Acc) : Acc := ([], (isum (col1 l), (isum (col2 l), (isum (col3 l), isum (col4 l)))))
theorem accP_bd {a : Acc} (h : accP a = true) : (0 ≤ a.2.1 ∧ a.2.1 ≤ 1099511627776) ∧ (0 ≤ a.2.2.1 ∧ a.2.2.1 ≤ 1099511627776) ∧ (0 ≤ a.2.2.2.1 ∧ a.2.2.2.1 ≤ 1099511627776) ∧ (-1099511627776 ≤ a.2.2.2.2 ∧ a.2.2.2.2 ≤ 1099511627776) := by
  simpa only [accP, volP, sgnP, Bool.and_eq_true, decide_eq_true_eq] using h
theorem col_bd {l : List Acc} (hv : ValidP l) (f : Acc → Int) (hf : ∀ a, accP a = true → -1099511627776 ≤ f a ∧ f a ≤ 1099511627776) (i : Nat) : -70368744177664 ≤ isum ((l.map f).take i) ∧ isum ((l.map f).take i) ≤ 70368744177664 := by
  have := isum_bd (l := (l.map f).take i) (a := -1099511627776) (b := 1099511627776) fun x hx => by
    obtain ⟨a, ha, rfl⟩ := List.mem_map.1 (List.mem_of_mem_take hx)
    exact hf a (hv.acc a ha)
  rw [List.length_take, List.length_map] at this
  have := hv.n
  omega
theorem col_at (l : List Acc) (f : Acc → Int) {i : Nat} (hi : i < l.length) : isum ((l.map f).take (i + 1)) = isum ((l.map f).take i) + f (l.getD i d0) := by
  rw [isum_next (by simpa using hi), gD_map f l i d0 0 hi]

theorem sum_eqL {l : List Acc} (hv : ValidP l) : iter (fun x : Int × Int × Int × Int × Int => account_Sum_L0 l x.1 x.2.1 x.2.2.1 x.2.2.2.1 x.2.2.2.2) (0, 0, 0, 0, 0) = some (isum (col1 l), isum (col2 l), isum (col3 l), isum (col4 l)) := by
  have hn := hv.n
  have key := iter_for (step := fun x : Int × Int × Int × Int × Int => account_Sum_L0 l x.1 x.2.1 x.2.2.1 x.2.2.2.1 x.2.2.2.2) l.length (fun i => ((i : Int), isum ((col1 l).take i), isum ((col2 l).take i), isum ((col3 l).take i), isum ((col4 l).take i))) (e := (isum (col1 l), isum (col2 l), isum (col3 l), isum (col4 l))) (fun i hi => by
      have c1 := col_at l (fun a => a.2.1) hi
      have c2 := col_at l (fun a => a.2.2.1) hi
      have c3 := col_at l (fun a => a.2.2.2.1) hi
      have c4 := col_at l (fun a => a.2.2.2.2) hi
      have b1 := col_bd hv (fun a => a.2.1) (fun a h => by have := accP_bd h; omega) (i + 1)
      have b2 := col_bd hv (fun a => a.2.2.1) (fun a h => by have := accP_bd h; omega) (i + 1)
      have b3 := col_bd hv (fun a => a.2.2.2.1) (fun a h => by have := accP_bd h; omega) (i + 1)
      have b4 := col_bd hv (fun a => a.2.2.2.2) (fun a h => by have := accP_bd h; omega) (i + 1)
      unfold account_Sum_L0 col1 col2 col3 col4
      simp only [dec_t (show (i : Int) < (l.length : Int) by omega), cond_true, gd_t (inB_t hi), Int.toNat_natCast]
      rw [← c1, ← c2, ← c3, ← c4, wi (by omega), wi (by omega), wi (by omega), wi (by omega), wi (by omega)]; rfl) (by
      unfold account_Sum_L0
      simp only [dec_f (show ¬ (l.length : Int) < (l.length : Int) by omega), cond_false]
      rw [List.take_of_length_le (by simp [col1]), List.take_of_length_le (by simp [col2]), List.take_of_length_le (by simp [col3]), List.take_of_length_le (by simp [col4])])
  simpa [isum] using key
theorem rsum_eqL {l : List Acc} (hv : ValidP l) : iter (fun x : Int × Int × Int × Int × Int => ref39_Sum_L0 l x.1 x.2.1 x.2.2.1 x.2.2.2.1 x.2.2.2.2) (0, 0, 0, 0, 0) = some (isum (col1 l), isum (col2 l), isum (col3 l), isum (col4 l)) := by
  rw [← sum_eqL hv]
  congr 1
  funext x
  unfold ref39_Sum_L0 account_Sum_L0
  cases decide (x.1 < (l.length : Int))
  · rfl
  · cases inB x.1 l.length <;> rfl
theorem sum_eq {l : List Acc} (hl : l.length ≤ 1000000) : account_Sum l = some (if validB l = true then (sumA l, 0) else (d0, 27)) := by
  unfold account_Sum
  rw [valid_eq hl]
  cases hv : validB l
  · rfl
  · simp only [Option.bind_some, Bool.not_true, cond_false, sum_eqL (validB_iff.1 hv)]; rfl
theorem rsum_eq {l : List Acc} (hl : l.length ≤ 1000000) : ref39_Sum l = some (if validB l = true then (sumA l, 0) else (d0, 27)) := by
  unfold ref39_Sum
  rw [rvalid_eq hl]
  cases hv : validB l
  · rfl
  · simp only [Option.bind_some, Bool.not_true, cond_false, rsum_eqL (validB_iff.1 hv)]; rfl
def stockP (a : Acc) : Int := a.2.1 - a.2.2.1 - a.2.2.2.1 + a.2.2.2.2
theorem stock_same (a : Acc) : account_Stock a = ref39_Stock a := rfl
theorem stock_eq {a : Acc} (h : (-70368744177664 ≤ a.2.1 ∧ a.2.1 ≤ 70368744177664) ∧ (-70368744177664 ≤ a.2.2.1 ∧ a.2.2.1 ≤ 70368744177664) ∧ (-70368744177664 ≤ a.2.2.2.1 ∧ a.2.2.2.1 ≤ 70368744177664) ∧ (-70368744177664 ≤ a.2.2.2.2 ∧ a.2.2.2.2 ≤ 70368744177664)) : account_Stock a = some (stockP a) ∧ ref39_Stock a = some (stockP a) := by
  rw [← stock_same]
  have : account_Stock a = some (stockP a) := by
    unfold account_Stock stockP
    rw [show wi64 (a.2.1 - a.2.2.1) = a.2.1 - a.2.2.1 from wi (by omega), show wi64 (a.2.1 - a.2.2.1 - a.2.2.2.1) = a.2.1 - a.2.2.1 - a.2.2.2.1 from wi (by omega), wi (by omega)]
  exact ⟨this, this⟩
theorem stock_acc {a : Acc} (h : accP a = true) : account_Stock a = some (stockP a) ∧ ref39_Stock a = some (stockP a) := by
  have := accP_bd h
  exact stock_eq (by omega)
theorem sumA_bd {l : List Acc} (hv : ValidP l) : (-70368744177664 ≤ (sumA l).2.1 ∧ (sumA l).2.1 ≤ 70368744177664) ∧ (-70368744177664 ≤ (sumA l).2.2.1 ∧ (sumA l).2.2.1 ≤ 70368744177664) ∧ (-70368744177664 ≤ (sumA l).2.2.2.1 ∧ (sumA l).2.2.2.1 ≤ 70368744177664) ∧ (-70368744177664 ≤ (sumA l).2.2.2.2 ∧ (sumA l).2.2.2.2 ≤ 70368744177664) := by
  have b1 := col_bd hv (fun a => a.2.1) (fun a h => by have := accP_bd h; omega) l.length
  have b2 := col_bd hv (fun a => a.2.2.1) (fun a h => by have := accP_bd h; omega) l.length
  have b3 := col_bd hv (fun a => a.2.2.2.1) (fun a h => by have := accP_bd h; omega) l.length
  have b4 := col_bd hv (fun a => a.2.2.2.2) (fun a h => by have := accP_bd h; omega) l.length
  rw [List.take_of_length_le (by simp)] at b1 b2 b3 b4
  exact ⟨b1, b2, b3, b4⟩
def stocks (l : List Acc) : List Int := l.map stockP
theorem stocks_sum (l : List Acc) : isum (stocks l) = stockP (sumA l) := by
  induction l with
  | nil => rfl
  | cons a l ih =>
    simp only [stocks, sumA, stockP, col1, col2, col3, col4, List.map_cons, isum] at ih ⊢
    omega

/-! ### Closing -/
/-- What shares are posted as. -/
noncomputable def closeF (l : List Acc) : List Int → Nat → List Acc → List Ent → (List Acc × List Ent) ⊕ Unit
  | [], _, out, es => .inl (out, es)
  | n :: r, i, out, es => if n = 0 then closeF l r (i + 1) out es
    else if (postF out ((l.getD i d0).1, (4, n))).2 = 0 then closeF l r (i + 1) (postF out ((l.getD i d0).1, (4, n))).1 (es ++ [((l.getD i d0).1, (4, n))]) else .inr ()
theorem close_step {l : List Acc} {sh : List Int} {i : Nat} {out : List Acc} {es : List Ent} (hi : i < sh.length) : closeF l (sh.drop i) i out es = if sh.getD i 0 = 0 then closeF l (sh.drop (i + 1)) (i + 1) out es
    else if (postF out ((l.getD i d0).1, (4, sh.getD i 0))).2 = 0 then closeF l (sh.drop (i + 1)) (i + 1) (postF out ((l.getD i d0).1, (4, sh.getD i 0))).1 (es ++ [((l.getD i d0).1, (4, sh.getD i 0))]) else .inr () := by
  rw [gD_eq (l := sh) hi, List.drop_eq_getElem_cons hi]; rfl

theorem close_L0 {l : List Acc} {m : Int} (hv : ValidP l) (hm : 0 ≤ m ∧ m ≤ 1099511627776) : iter (fun x : Int × Int × List Int => account_Close_L0 l x.1 x.2.1 x.2.2) (m, 0, []) = some (m - stockP (sumA l), col2 l) := by
  have hn := hv.n
  have hst : ∀ i, i ≤ l.length → -281474976710656 ≤ isum ((stocks l).take i) ∧ isum ((stocks l).take i) ≤ 281474976710656 := fun i _ => by
    have := isum_bd (l := (stocks l).take i) (a := -4398046511104) (b := 4398046511104) fun x hx => by
      obtain ⟨a, ha, rfl⟩ := List.mem_map.1 (List.mem_of_mem_take hx)
      have := accP_bd (hv.acc a ha)
      unfold stockP; omega
    rw [List.length_take] at this
    simp only [stocks, List.length_map] at this ⊢
    omega
  have key := iter_for (step := fun x : Int × Int × List Int => account_Close_L0 l x.1 x.2.1 x.2.2) l.length (fun i => (m - isum ((stocks l).take i), (i : Int), (col2 l).take i)) (e := (m - stockP (sumA l), col2 l)) (fun i hi => by
      have c1 := col_at l stockP hi
      have h1 := hst (i + 1) (by omega)
      have h2 := hst i (by omega)
      have hl2 : ((col2 l).take i).length = i := by simp [col2]; omega
      have ha := stock_acc (hv.acc _ (gD_mem (d := d0) hi))
      unfold account_Close_L0
      simp only [dec_t (show (i : Int) < (l.length : Int) by omega), cond_true, gd_t (inB_t hi), Int.toNat_natCast]
      rw [show account_Stock ((l.getD i d0).1, (((l.getD i d0).2).1, ((((l.getD i d0).2).2).1, (((((l.getD i d0).2).2).2).1, ((((l.getD i d0).2).2).2).2)))) = some (stockP (l.getD i d0)) from ha.1]
      simp only [Option.bind_some, hl2, gd_t (fits_t (n := i + 1) (b := 8) (by omega))]
      have e2 : (col2 l).take (i + 1) = (col2 l).take i ++ [(l.getD i d0).2.2.1] := by
        rw [take_next 0 (by simpa [col2] using hi)]
        congr 2
        exact gD_map (fun a : Acc => a.2.2.1) l i d0 0 hi
      unfold stocks at h1 h2 ⊢
      rw [e2, c1, wi (by omega), wi (by omega)]
      simp only [Int.sub_sub]; rfl) (by
      unfold account_Close_L0
      simp only [dec_f (show ¬ (l.length : Int) < (l.length : Int) by omega), cond_false]
      rw [List.take_of_length_le (show (col2 l).length ≤ l.length by simp [col2]), List.take_of_length_le (show (stocks l).length ≤ l.length by simp [stocks]), stocks_sum])
  simpa [isum] using key
theorem rclose_L0 {l : List Acc} (hn : l.length ≤ 64) : iter (fun x : Int × List Int => ref39_Close_L0 l x.1 x.2) (0, []) = some (col2 l) := by
  have key := iter_for (step := fun x : Int × List Int => ref39_Close_L0 l x.1 x.2) l.length (fun i => ((i : Int), (col2 l).take i)) (e := col2 l) (fun i hi => by
      have hl2 : ((col2 l).take i).length = i := by simp [col2]; omega
      unfold ref39_Close_L0
      simp only [dec_t (show (i : Int) < (l.length : Int) by omega), cond_true, gd_t (inB_t hi), Int.toNat_natCast, hl2, gd_t (fits_t (n := i + 1) (b := 8) (by omega))]
      have e2 : (col2 l).take (i + 1) = (col2 l).take i ++ [(l.getD i d0).2.2.1] := by
        rw [take_next 0 (by simpa [col2] using hi)]
        congr 2
        exact gD_map (fun a : Acc => a.2.2.1) l i d0 0 hi
      rw [e2, wi (by omega)]; rfl) (by
      unfold ref39_Close_L0
      simp only [dec_f (show ¬ (l.length : Int) < (l.length : Int) by omega), cond_false]
      rw [List.take_of_length_le (by simp [col2])])
  simpa using key

theorem close_L1 {l : List Acc} {sh : List Int} {er : Int} (hn : l.length ≤ 64) (hs : sh.length = l.length) : ∃ s, iter (fun x : Int × List Acc × List Ent => account_Close_L1 l (sh, er) x.1 x.2.1 x.2.2) (0, l, []) = some s ∧
    s = (closeF l sh 0 l []).elim (fun p => .inl (p.1, p.2)) (fun _ => .inr ([], 4, l)) := by
  refine iter_inv (fun x => ∃ i : Nat, ∃ out es, x = ((i : Int), out, es) ∧ i ≤ sh.length ∧ out.length ≤ l.length + i ∧ es.length ≤ i ∧ closeF l (sh.drop i) i out es = closeF l sh 0 l []) (fun x => ((sh.length : Int) - x.1).toNat) _ ?_ ⟨0, l, [], rfl, by omega, by omega, by simp, by simp⟩
  rintro _ ⟨i, out, es, rfl, h2, h3, h3e, h4⟩
  unfold account_Close_L1
  simp only
  by_cases hi : i < sh.length
  · rw [close_step hi] at h4
    simp only [dec_t (show (i : Int) < (sh.length : Int) by omega), cond_true, gd_t (inB_t hi), Int.toNat_natCast]
    by_cases hz : sh.getD i 0 = 0
    · right
      rw [if_pos hz] at h4
      rw [dec_t hz, wi (by omega)]
      exact ⟨_, rfl, ⟨i + 1, out, es, rfl, by omega, by omega, by omega, h4⟩, by simp only; omega⟩
    · rw [if_neg hz] at h4
      rw [dec_f hz]
      have hp := post_eq (l := out) (e := ((l.getD i d0).1, (4, sh.getD i 0))) (by omega)
      have hl := post_len (l := out) (e := ((l.getD i d0).1, (4, sh.getD i 0))) (by omega)
      simp only [cond_false, gd_t (inB_t (show i < l.length by omega)), hp.1, Option.bind_some]
      by_cases hq : (postF out ((l.getD i d0).1, (4, sh.getD i 0))).2 = 0
      · right
        rw [if_pos hq] at h4
        rw [dec_t hq, gd_t (fits_t (by omega)), wi (by omega)]
        exact ⟨_, rfl, ⟨i + 1, (postF out ((l.getD i d0).1, (4, sh.getD i 0))).1, es ++ [((l.getD i d0).1, (4, sh.getD i 0))], rfl, by omega, by omega, by simp; omega, h4⟩, by simp only; omega⟩
      · left
        rw [if_neg hq] at h4
        rw [dec_f hq, clone_eq (by omega)]
        exact ⟨_, rfl, by rw [← h4]; rfl⟩
  · left
    rw [List.drop_of_length_le (by omega)] at h4
    exact ⟨.inl (out, es), by simp only [dec_f (show ¬ (i : Int) < (sh.length : Int) by omega), cond_false], by rw [← h4]; rfl⟩
theorem rclose_L1 {l : List Acc} {sh : List Int} {er : Int} (hn : l.length ≤ 64) (hs : sh.length = l.length) : ∃ s, iter (fun x : List Acc × Int × List Ent => ref39_Close_L1 l (sh, er) x.1 x.2.1 x.2.2) (l, 0, []) = some s ∧
    s = (closeF l sh 0 l []).elim (fun p => .inl (p.1, p.2)) (fun _ => .inr (l, [], 4)) := by
  refine iter_inv (fun x => ∃ i : Nat, ∃ out es, x = (out, (i : Int), es) ∧ i ≤ sh.length ∧ out.length ≤ l.length + i ∧ es.length ≤ i ∧ closeF l (sh.drop i) i out es = closeF l sh 0 l []) (fun x => ((sh.length : Int) - x.2.1).toNat) _ ?_ ⟨0, l, [], rfl, by omega, by omega, by simp, by simp⟩
  rintro _ ⟨i, out, es, rfl, h2, h3, h3e, h4⟩
  unfold ref39_Close_L1
  simp only
  by_cases hi : i < sh.length
  · rw [close_step hi] at h4
    simp only [dec_t (show (i : Int) < (l.length : Int) by omega), cond_true, gd_t (inB_t hi), Int.toNat_natCast]
    by_cases hz : sh.getD i 0 = 0
    · right
      rw [if_pos hz] at h4
      rw [dec_t hz, wi (by omega)]
      exact ⟨_, rfl, ⟨i + 1, out, es, rfl, by omega, by omega, by omega, h4⟩, by simp only; omega⟩
    · rw [if_neg hz] at h4
      rw [dec_f hz]
      have hp := post_eq (l := out) (e := ((l.getD i d0).1, (4, sh.getD i 0))) (by omega)
      have hl := post_len (l := out) (e := ((l.getD i d0).1, (4, sh.getD i 0))) (by omega)
      simp only [cond_false, gd_t (inB_t (show i < l.length by omega)), hp.2.1, Option.bind_some]
      by_cases hq : (postF out ((l.getD i d0).1, (4, sh.getD i 0))).2 = 0
      · right
        rw [if_pos hq] at h4
        rw [dec_t hq, gd_t (fits_t (by omega)), wi (by omega)]
        exact ⟨_, rfl, ⟨i + 1, (postF out ((l.getD i d0).1, (4, sh.getD i 0))).1, es ++ [((l.getD i d0).1, (4, sh.getD i 0))], rfl, by omega, by omega, by simp; omega, h4⟩, by simp only; omega⟩
      · left
        rw [if_neg hq] at h4
        rw [dec_f hq]
        exact ⟨_, rfl, by rw [← h4]; rfl⟩
  · left
    rw [List.drop_of_length_le (by omega)] at h4
    exact ⟨.inl (out, es), by simp only [dec_f (show ¬ (i : Int) < (l.length : Int) by omega), cond_false], by rw [← h4]; rfl⟩

/-- Accounts behind closing, the entries, and the error. -/
noncomputable def closeA (l : List Acc) (m : Int) : List Acc × List Ent × Int :=
  if ¬ validB l = true then (l, [], 27) else if ¬ volP m = true then (l, [], 1)
  else if ((ref38_Share (m - stockP (sumA l)) (col2 l)).getD ([], 0)).2 ≠ 0 then (l, [], ((ref38_Share (m - stockP (sumA l)) (col2 l)).getD ([], 0)).2)
  else (closeF l ((ref38_Share (m - stockP (sumA l)) (col2 l)).getD ([], 0)).1 0 l []).elim (fun p => (p.1, p.2, 0)) (fun _ => (l, [], 4))

theorem share_len {t : Int} {w : List Int} {r : List Int × Int} (h : allocate_Share t w = some r) (h0 : r.2 = 0) : r.1.length = w.length := by
  obtain ⟨r', q1, q2, q3⟩ := allot_both t w
  rw [h] at q1; injection q1 with q1; subst q1
  revert q2
  unfold ref38_Share
  by_cases h1 : 64 < w.length
  · rw [dec_t (show (64 : Int) < (w.length : Int) by omega)]; intro e; injection e with e; subst e; cases h0
  · rw [dec_f (show ¬ (64 : Int) < (w.length : Int) by omega)]
    by_cases h2 : t < -1099511627776 ∨ 1099511627776 < t
    · by_cases h3 : t < -1099511627776
      · rw [dec_t h3]; intro e; injection e with e; subst e; cases h0
      · rw [dec_f h3, dec_t (show 1099511627776 < t by omega)]; intro e; injection e with e; subst e; cases h0
    · rw [dec_f (show ¬ t < -1099511627776 by omega), dec_f (show ¬ 1099511627776 < t by omega), rl_L0 (by omega)]
      cases hv : vOk w
      · intro e; injection e with e; subst e; cases h0
      · by_cases ht : t = 0
        · simp only [cond_false, cond_true, Option.bind_some, Sum.elim_inl, dec_t ht, Int.toNat_natCast]
          rw [gd_t (makeG_t (show w.length * 8 ≤ _ by omega))]
          intro e; injection e with e; subst e; simp
        · by_cases h4 : isum w = 0
          · simp only [cond_false, cond_true, Option.bind_some, Sum.elim_inl, dec_f ht, dec_t h4]
            intro e; injection e with e; subst e; cases h0
          · intro _
            have hin : AlIn (max t (-t)).toNat w := ⟨by omega, by omega, vOk_iff.1 hv, h4⟩
            obtain ⟨o, ho, q, _⟩ := al_main hin (by omega) ht
            rw [h] at q; injection q with q; subst q
            have := (share_bd hin ho).1
            simp only [allotOf, List.length_map]
            exact this

theorem close_both {l : List Acc} {m : Int} (hl : l.length ≤ 1000) : account_Close l m = some ((closeA l m).2.1, (closeA l m).2.2, (closeA l m).1) ∧ ref39_Close l m = some (closeA l m) := by
  unfold account_Close ref39_Close closeA
  rw [valid_eq (by omega), rvalid_eq (by omega), clone_eq (by omega), vol_eq]
  cases hv : validB l
  · exact ⟨rfl, rfl⟩
  have hv' := validB_iff.1 hv
  have hn := hv'.n
  simp only [Option.bind_some, Bool.not_true, cond_false, not_true, if_false]
  have hr : (bif decide (m < 0) then some true else some (decide (1099511627776 < m))) = some (!volP m) := by
    unfold volP
    by_cases h1 : m < 0
    · rw [dec_t h1, dec_f (show ¬ (0 ≤ m ∧ m ≤ 1099511627776) by omega)]; rfl
    · by_cases h2 : 1099511627776 < m
      · rw [dec_f h1, dec_t h2, dec_f (show ¬ (0 ≤ m ∧ m ≤ 1099511627776) by omega)]; rfl
      · rw [dec_f h1, dec_f h2, dec_t (show (0 ≤ m ∧ m ≤ 1099511627776) by omega)]; rfl
  rw [hr]
  cases hm : volP m
  · exact ⟨rfl, rfl⟩
  have hm' : 0 ≤ m ∧ m ≤ 1099511627776 := by simpa [volP] using hm
  have hsb := sumA_bd hv'
  simp only [Option.bind_some, Bool.not_true, cond_false, not_true, if_false]
  rw [close_L0 hv' hm', rclose_L0 hn, rsum_eq (by omega), hv]
  simp only [Option.bind_some, if_true]
  rw [show ref39_Stock ((sumA l).1, ((sumA l).2.1, ((sumA l).2.2.1, ((sumA l).2.2.2.1, (sumA l).2.2.2.2)))) = some (stockP (sumA l)) from (stock_eq hsb).2]
  have hst : -300000000000000 ≤ stockP (sumA l) ∧ stockP (sumA l) ≤ 300000000000000 := by unfold stockP; omega
  simp only [Option.bind_some]
  rw [wi (by omega)]
  obtain ⟨r, q1, q2, q3⟩ := allot_both (m - stockP (sumA l)) (col2 l)
  rw [q2, show allocate_Share (m - stockP (sumA l)) (col2 l) = some r from q1]
  simp only [Option.bind_some, Option.getD_some]
  obtain ⟨sh, er⟩ := r
  by_cases he : er = 0
  · subst he
    have hsl : sh.length = l.length := by
      have := share_len q1 rfl
      simpa [col2] using this
    obtain ⟨s1, t1, t2⟩ := close_L1 (er := 0) hn hsl
    obtain ⟨s2, t3, t4⟩ := rclose_L1 (er := 0) hn hsl
    simp only [decide_true, Bool.not_true, cond_false, ne_eq, not_true, if_false, Option.bind_some, clone_eq (show l.length ≤ 1000000 by omega), t1, List.nil_append, t3, gd_t (show fits (0 + l.length) 48 = true from fits_t (by omega))]
    rw [t2, t4]
    cases closeF l sh 0 l [] with
    | inl p => exact ⟨rfl, rfl⟩
    | inr u => exact ⟨rfl, rfl⟩
  · simp only [dec_f he, Bool.not_false, cond_true, ne_eq, he, not_false_eq_true, if_true, clone_eq (show l.length ≤ 1000000 by omega), Option.bind_some]
    exact ⟨rfl, rfl⟩
end Go.Proofs.Ytmleldfhkangbaa
