/- Pieces: litres, what is joined, what is cut, what is valid, a push. No condition. -/
import Derived.Test.YtnhaphgnpgaocaaLe
import Derived.Test.YtnhaphgnpgaocaaSr
namespace Go.Proofs.Ytnhaphgnpgaocaa
open Go Go.Sq

abbrev Pc := Int × Int
abbrev pz : Pc := (0, 0)

/-! ### Litres -/
/-- The litres of pieces, each with its batch. -/
def exp : List Pc → List Int
  | [] => []
  | p :: f => List.replicate p.2.toNat p.1 ++ exp f
theorem exp_app : ∀ (f g : List Pc), exp (f ++ g) = exp f ++ exp g
  | [], _ => rfl
  | p :: f, g => by simp only [List.cons_append, exp, exp_app f g, List.append_assoc]
theorem exp_one (p : Pc) : exp [p] = List.replicate p.2.toNat p.1 := by simp [exp]
/-- Pieces that are joined: none is empty, neighbours are of different batches. -/
structure Norm (f : List Pc) : Prop where
  pos : ∀ p ∈ f, 1 ≤ p.2
  ne : ∀ i, i + 1 < f.length → (f.getD i pz).1 ≠ (f.getD (i + 1) pz).1
theorem Norm.nil : Norm [] := ⟨by simp, by simp⟩
theorem Norm.tail {p : Pc} {f : List Pc} (h : Norm (p :: f)) : Norm f :=
  ⟨fun q hq => h.pos q (by simp [hq]), fun i hi => h.ne (i + 1) (by simp; omega)⟩
theorem Norm.head {p q : Pc} {f : List Pc} (h : Norm (p :: f)) (hq : f.head? = some q) : p.1 ≠ q.1 := by
  cases f with
  | nil => cases hq
  | cons q' f => injection hq with hq; subst hq; exact h.ne 0 (by simp)
theorem exp_head {f : List Pc} (h : Norm f) : (exp f).head? = f.head?.map (·.1) := by
  cases f with
  | nil => rfl
  | cons p f =>
    have := h.pos p (by simp)
    obtain ⟨n, hn⟩ : ∃ n, p.2.toNat = n + 1 := ⟨p.2.toNat - 1, by omega⟩
    simp only [exp, hn, List.replicate_succ, List.cons_append, List.head?_cons, Option.map_some]
theorem rep_cancel {n m : Nat} {b : Int} {X Y : List Int} (h : List.replicate n b ++ X = List.replicate m b ++ Y) (hnm : n ≤ m) : X = List.replicate (m - n) b ++ Y := by
  have : List.replicate m b = List.replicate n b ++ List.replicate (m - n) b := by rw [List.replicate_append_replicate]; congr 1; omega
  rw [this, List.append_assoc] at h
  exact List.append_cancel_left h
theorem norm_uniq : ∀ {f g : List Pc}, Norm f → Norm g → exp f = exp g → f = g
  | [], [], _, _, _ => rfl
  | [], q :: g, _, hg, h => by
    have := exp_head hg
    rw [← h] at this; cases this
  | p :: f, [], hf, _, h => by
    have := exp_head hf
    rw [h] at this; cases this
  | p :: f, q :: g, hf, hg, h => by
    have e1 := exp_head hf
    have e2 := exp_head hg
    rw [h, e2] at e1
    have hpq : q.1 = p.1 := by simpa using e1
    have h1 := hf.pos p (by simp)
    have h2 := hg.pos q (by simp)
    have hx : List.replicate p.2.toNat p.1 ++ exp f = List.replicate q.2.toNat p.1 ++ exp g := by
      have : exp (p :: f) = exp (q :: g) := h
      simp only [exp] at this
      rw [hpq] at this; exact this
    have big : ∀ {f g : List Pc} {b : Int} {n m : Nat}, Norm f → (∀ q, f.head? = some q → b ≠ q.1) → List.replicate n b ++ exp f = List.replicate m b ++ exp g → n ≤ m → n = m := by
      intro f g b n m hf hh h hnm
      have h3 := rep_cancel h hnm
      by_cases hlt : n < m
      · exfalso
        obtain ⟨k, hk⟩ : ∃ k, m - n = k + 1 := ⟨m - n - 1, by omega⟩
        have h4 := exp_head hf
        rw [h3, hk, List.replicate_succ, List.cons_append, List.head?_cons] at h4
        cases f with
        | nil => cases h4
        | cons q f =>
          simp only [List.head?_cons, Option.map_some, Option.some.injEq] at h4
          exact hh q rfl h4
      · omega
    have hn : p.2.toNat = q.2.toNat := by
      rcases Nat.le_total p.2.toNat q.2.toNat with hle | hle
      · exact big hf.tail (fun r hr => hf.head hr) hx hle
      · exact (big hg.tail (fun r hr => by rw [← hpq]; exact hg.head hr) hx.symm hle).symm
    rw [hn] at hx
    have hfg := norm_uniq hf.tail hg.tail (List.append_cancel_left hx)
    have : p = q := Prod.ext hpq.symm (by omega)
    rw [this, hfg]
theorem exp_len {f : List Pc} (h : ∀ p ∈ f, 0 ≤ p.2) : ((exp f).length : Int) = isum (f.map (·.2)) := by
  induction f with
  | nil => rfl
  | cons p f ih =>
    have := ih fun q hq => h q (by simp [hq])
    have h1 := h p (by simp)
    simp only [exp, List.length_append, List.length_replicate, List.map_cons, isum]
    omega
theorem exp_mem {f : List Pc} {c : Int} (h : c ∈ exp f) : ∃ p ∈ f, p.1 = c := by
  induction f with
  | nil => cases h
  | cons p f ih =>
    simp only [exp, List.mem_append, List.mem_replicate] at h
    rcases h with ⟨_, rfl⟩ | h
    · exact ⟨p, by simp, rfl⟩
    · obtain ⟨q, hq, e⟩ := ih h
      exact ⟨q, by simp [hq], e⟩
theorem mem_exp {f : List Pc} {p : Pc} (h : p ∈ f) (hp : 1 ≤ p.2) : p.1 ∈ exp f := by
  induction f with
  | nil => cases h
  | cons q f ih =>
    simp only [exp, List.mem_append, List.mem_replicate]
    rcases List.mem_cons.1 h with rfl | h
    · exact .inl ⟨by omega, rfl⟩
    · exact .inr (ih h)
theorem mem_len {f : List Pc} {p : Pc} (h : p ∈ f) : p.2.toNat ≤ (exp f).length := by
  induction f with
  | nil => cases h
  | cons q f ih =>
    simp only [exp, List.length_append, List.length_replicate]
    rcases List.mem_cons.1 h with rfl | h
    · omega
    · have := ih h; omega
theorem norm_len {f : List Pc} (h : ∀ p ∈ f, 1 ≤ p.2) : f.length ≤ (exp f).length := by
  induction f with
  | nil => exact Nat.le_refl _
  | cons p f ih =>
    have := ih fun q hq => h q (by simp [hq])
    have h1 := h p (by simp)
    simp only [exp, List.length_append, List.length_replicate, List.length_cons]; omega
theorem exp_le {f : List Pc} {B : Nat} (h : ∀ p ∈ f, p.2 ≤ B) : (exp f).length ≤ f.length * B := by
  induction f with
  | nil => simp [exp]
  | cons p f ih =>
    have := ih fun q hq => h q (by simp [hq])
    have h1 := h p (by simp)
    simp only [exp, List.length_append, List.length_replicate, List.length_cons, Nat.add_mul]; omega

/-! ### What is joined -/
def jn (out : List Pc) (p : Pc) : List Pc :=
  if p.2 = 0 then out else if 0 < out.length ∧ (out.getD (out.length - 1) pz).1 = p.1 then out.set (out.length - 1) ((out.getD (out.length - 1) pz).1, (out.getD (out.length - 1) pz).2 + p.2) else out ++ [p]
theorem last_at (l : List Pc) (q : Pc) : (l ++ [q]).getD ((l ++ [q]).length - 1) pz = q := by
  rw [List.length_append, List.length_singleton, Nat.add_sub_cancel, gD_app, if_neg (Nat.lt_irrefl _), Nat.sub_self]; rfl
theorem set_last (l : List Pc) (q r : Pc) : (l ++ [q]).set ((l ++ [q]).length - 1) r = l ++ [r] := by
  rw [List.length_append, List.length_singleton, Nat.add_sub_cancel]
  induction l with
  | nil => rfl
  | cons a l ih => simp only [List.cons_append, List.length_cons, List.set_cons_succ, ih]
theorem jn_ok {out : List Pc} {p : Pc} (h : Norm out) (hp : 0 ≤ p.2) : Norm (jn out p) ∧ exp (jn out p) = exp out ++ List.replicate p.2.toNat p.1 := by
  unfold jn
  split
  · next h0 => rw [h0]; exact ⟨h, by simp⟩
  · next h0 =>
    split
    · next hc =>
      obtain ⟨hl, he⟩ := hc
      rcases List.eq_nil_or_concat out with rfl | ⟨l, q, rfl⟩
      · simp at hl
      · rw [List.concat_eq_append] at *
        rw [last_at] at he ⊢
        rw [set_last]
        have hq := h.pos q (by simp)
        refine ⟨⟨fun r hr => ?_, fun i hi => ?_⟩, ?_⟩
        · rcases List.mem_append.1 hr with hr | hr
          · exact h.pos r (by simp [hr])
          · rw [List.mem_singleton.1 hr]; simp only; omega
        · have e : ∀ j, ((l ++ [(q.1, q.2 + p.2)]).getD j pz).1 = ((l ++ [q]).getD j pz).1 := by
            intro j
            rw [gD_app, gD_app]
            split
            · rfl
            · cases j - l.length with
              | zero => rfl
              | succ k => simp [List.getD]
          rw [e, e]
          exact h.ne i (by simpa using hi)
        · rw [exp_app, exp_app, exp_one, exp_one, List.append_assoc]
          simp only
          rw [he, List.replicate_append_replicate]
          congr 2; omega
    · next hc =>
      refine ⟨⟨fun r hr => ?_, fun i hi => ?_⟩, by rw [exp_app, exp_one]⟩
      · rcases List.mem_append.1 hr with hr | hr
        · exact h.pos r hr
        · rw [List.mem_singleton.1 hr]; omega
      · simp only [List.length_append, List.length_singleton] at hi
        rw [gD_app, gD_app, if_pos (by omega)]
        by_cases hi2 : i + 1 < out.length
        · rw [if_pos hi2]; exact h.ne i hi2
        · rw [if_neg hi2, show i + 1 - out.length = 0 by omega]
          intro he
          exact hc ⟨by omega, by rw [show out.length - 1 = i by omega]; exact he⟩
def joinF (f : List Pc) : List Pc := f.foldl jn []
theorem foldl_jn : ∀ {f out : List Pc}, Norm out → (∀ p ∈ f, 0 ≤ p.2) → Norm (f.foldl jn out) ∧ exp (f.foldl jn out) = exp out ++ exp f
  | [], out, h, _ => ⟨h, by simp [exp]⟩
  | p :: f, out, h, hv => by
    obtain ⟨h1, h2⟩ := jn_ok h (hv p (by simp))
    obtain ⟨h3, h4⟩ := foldl_jn (f := f) h1 fun q hq => hv q (by simp [hq])
    exact ⟨h3, by rw [List.foldl_cons, h4, h2, List.append_assoc]; rfl⟩
theorem joinF_ok {f : List Pc} (hv : ∀ p ∈ f, 0 ≤ p.2) : Norm (joinF f) ∧ exp (joinF f) = exp f := by
  have := foldl_jn Norm.nil hv
  exact ⟨this.1, by rw [joinF, this.2]; rfl⟩
theorem joinF_snoc {f : List Pc} {i : Nat} (hi : i < f.length) : joinF (f.take (i + 1)) = jn (joinF (f.take i)) (f.getD i pz) := by
  unfold joinF
  rw [take_next pz hi, List.foldl_append]; rfl

/-- Volumes that no sum of a few leads out of the numbers. -/
def Vol (f : List Pc) : Prop := f.length ≤ 1000 ∧ ∀ p ∈ f, 0 ≤ p.2 ∧ p.2 ≤ 10000000
theorem Vol.take {f : List Pc} (h : Vol f) (i : Nat) : Vol (f.take i) := ⟨by rw [List.length_take]; have := h.1; omega, fun p hp => h.2 p (List.mem_of_mem_take hp)⟩
theorem Vol.len {f : List Pc} (h : Vol f) : (exp f).length ≤ 10000000000 := by
  have := exp_le (f := f) (B := 10000000) fun p hp => (h.2 p hp).2
  have h2 := h.1
  have h3 : f.length * 10000000 ≤ 1000 * 10000000 := Nat.mul_le_mul_right _ h2
  omega
theorem joined_bd {f : List Pc} (h : Vol f) : (joinF f).length ≤ 10000000000 ∧ ∀ p ∈ joinF f, 1 ≤ p.2 ∧ p.2 ≤ 10000000000 := by
  obtain ⟨h1, h2⟩ := joinF_ok fun p hp => (h.2 p hp).1
  have h3 := h.len
  rw [← h2] at h3
  refine ⟨Nat.le_trans (norm_len h1.pos) h3, fun p hp => ⟨h1.pos p hp, ?_⟩⟩
  have := mem_len hp
  omega

theorem merged_step {f : List Pc} (h : Vol f) {i : Nat} (hi : i < f.length) : piece_merged_L0 f (i : Int) (joinF (f.take i)) = some (.inl (((i + 1 : Nat) : Int), joinF (f.take (i + 1)))) ∧ ref14_Joined_L0 f (i : Int) (joinF (f.take i)) = some (.inl (((i + 1 : Nat) : Int), joinF (f.take (i + 1)))) := by
  obtain ⟨b1, b2⟩ := joined_bd (h.take i)
  have hv := h.2 _ (gD_mem (d := pz) hi)
  have hf := h.1
  rw [joinF_snoc hi]
  generalize joinF (f.take i) = out at b1 b2
  unfold piece_merged_L0 ref14_Joined_L0 jn
  simp only [dec_t (show (i : Int) < (f.length : Int) by omega), cond_true, gd_t (inB_t hi), Int.toNat_natCast, decide_true, Bool.true_and, show ((0, 0) : Pc) = pz from rfl]
  rw [show wi64 ((i : Int) + 1) = ((i + 1 : Nat) : Int) by rw [wi (by omega)]; rfl]
  by_cases h0 : (f.getD i pz).2 = 0
  · rw [dec_t h0, if_pos h0]; refine ⟨?_, ?_⟩ <;> first | trivial | rfl
  · rw [dec_f h0, if_neg h0]
    by_cases hl : 0 < out.length
    · have e1 : wi64 ((out.length : Int) - 1) = ((out.length - 1 : Nat) : Int) := by rw [wi (by omega)]; omega
      have hlt : out.length - 1 < out.length := by omega
      have hq := b2 _ (gD_mem (d := pz) hlt)
      rw [dec_t (show (0 : Int) < (out.length : Int) by omega), e1]
      simp only [cond_false, cond_true, gd_t (inB_t hlt), Int.toNat_natCast, Option.bind_some]
      by_cases he : (out.getD (out.length - 1) pz).1 = (f.getD i pz).1
      · rw [if_pos ⟨hl, he⟩, dec_t he]
        simp only [cond_true, e1, gd_t (inB_t hlt), Int.toNat_natCast, Option.bind_some, wi (show -9223372036854775808 ≤ (out.getD (out.length - 1) pz).2 + (f.getD i pz).2 ∧ (out.getD (out.length - 1) pz).2 + (f.getD i pz).2 ≤ 9223372036854775807 by omega)]
        refine ⟨?_, ?_⟩ <;> first | trivial | rfl
      · rw [if_neg (fun h => he h.2), dec_f he]
        simp only [cond_false, gd_t (fits_t (show (out.length + 1) * 16 ≤ 140737488355328 by omega)), Option.bind_some]
        refine ⟨?_, ?_⟩ <;> first | trivial | rfl
    · rw [dec_f (show ¬ (0 : Int) < (out.length : Int) by omega), if_neg (fun h => hl h.1)]
      simp only [cond_false, Option.bind_some, gd_t (fits_t (show (out.length + 1) * 16 ≤ 140737488355328 by omega))]
      refine ⟨?_, ?_⟩ <;> first | trivial | rfl
theorem merged_eq {f : List Pc} (h : Vol f) : piece_merged f = some (joinF f) ∧ ref14_Joined f = some (joinF f) := by
  have hf := h.1
  have k1 := iter_for (step := fun x : Int × List Pc => piece_merged_L0 f x.1 x.2) f.length (fun i => ((i : Int), joinF (f.take i))) (e := joinF f) (fun i hi => (merged_step h hi).1) (by
    unfold piece_merged_L0
    simp only [dec_f (show ¬ (f.length : Int) < (f.length : Int) by omega), cond_false, List.take_length])
  have k2 := iter_for (step := fun x : Int × List Pc => ref14_Joined_L0 f x.1 x.2) f.length (fun i => ((i : Int), joinF (f.take i))) (e := joinF f) (fun i hi => (merged_step h hi).2) (by
    unfold ref14_Joined_L0
    simp only [dec_f (show ¬ (f.length : Int) < (f.length : Int) by omega), cond_false, List.take_length])
  have e0 : (((0 : Nat) : Int), joinF (f.take 0)) = ((0 : Int), ([] : List Pc)) := rfl
  rw [e0] at k1 k2
  exact ⟨by unfold piece_merged; rw [k1]; rfl, by unfold ref14_Joined; rw [k2]; rfl⟩

/-! ### What is cut -/
def rst : List Pc → Int → Int
  | [], n => n
  | p :: f, n => rst f (n - min p.2 n)
def spl : List Pc → Int → List Pc × List Pc
  | [], _ => ([], [])
  | p :: f, n => ((p.1, min p.2 n) :: (spl f (n - min p.2 n)).1, (p.1, p.2 - min p.2 n) :: (spl f (n - min p.2 n)).2)
theorem spl_snoc : ∀ (f : List Pc) (p : Pc) (n : Int), spl (f ++ [p]) n = ((spl f n).1 ++ [(p.1, min p.2 (rst f n))], (spl f n).2 ++ [(p.1, p.2 - min p.2 (rst f n))]) ∧ rst (f ++ [p]) n = rst f n - min p.2 (rst f n)
  | [], p, n => ⟨rfl, rfl⟩
  | q :: f, p, n => by
    obtain ⟨h1, h2⟩ := spl_snoc f p (n - min q.2 n)
    exact ⟨by simp only [List.cons_append, spl, h1, rst], by simp only [List.cons_append, rst, h2]⟩
theorem spl_len : ∀ (f : List Pc) (n : Int), (spl f n).1.length = f.length ∧ (spl f n).2.length = f.length
  | [], _ => ⟨rfl, rfl⟩
  | p :: f, n => by
    obtain ⟨h1, h2⟩ := spl_len f (n - min p.2 n)
    exact ⟨by simp only [spl, List.length_cons, h1], by simp only [spl, List.length_cons, h2]⟩
theorem spl_bd : ∀ {f : List Pc} {n : Int}, 0 ≤ n → (∀ p ∈ f, 0 ≤ p.2 ∧ p.2 ≤ 10000000) → (0 ≤ rst f n ∧ rst f n ≤ n) ∧ (∀ p ∈ (spl f n).1, 0 ≤ p.2 ∧ p.2 ≤ 10000000) ∧ (∀ p ∈ (spl f n).2, 0 ≤ p.2 ∧ p.2 ≤ 10000000)
  | [], n, h, _ => ⟨⟨h, Int.le_refl _⟩, by simp [spl], by simp [spl]⟩
  | p :: f, n, h, hv => by
    have h1 := hv p (by simp)
    obtain ⟨h2, h3, h4⟩ := spl_bd (f := f) (n := n - min p.2 n) (by omega) fun q hq => hv q (by simp [hq])
    refine ⟨by simp only [rst]; omega, fun q hq => ?_, fun q hq => ?_⟩
    · simp only [spl] at hq
      rcases List.mem_cons.1 hq with rfl | hq
      · simp only; omega
      · exact h3 q hq
    · simp only [spl] at hq
      rcases List.mem_cons.1 hq with rfl | hq
      · simp only; omega
      · exact h4 q hq
theorem spl_exp : ∀ {f : List Pc} {n : Int}, 0 ≤ n → (∀ p ∈ f, 0 ≤ p.2) → exp (spl f n).1 = (exp f).take n.toNat ∧ exp (spl f n).2 = (exp f).drop n.toNat
  | [], n, _, _ => by simp [spl, exp]
  | p :: f, n, h, hv => by
    have h1 := hv p (by simp)
    obtain ⟨h2, h3⟩ := spl_exp (f := f) (n := n - min p.2 n) (by omega) fun q hq => hv q (by simp [hq])
    simp only [spl, exp, h2, h3]
    by_cases hc : p.2 ≤ n
    · rw [show min p.2 n = p.2 by omega]
      have hr : (List.replicate p.2.toNat p.1).length ≤ n.toNat := by rw [List.length_replicate]; omega
      rw [List.take_append, List.drop_append, List.take_of_length_le hr, List.drop_of_length_le hr, List.length_replicate]
      rw [show (n - p.2).toNat = n.toNat - p.2.toNat by omega, Int.sub_self]
      simp
    · rw [show min p.2 n = n by omega]
      rw [List.take_append, List.drop_append, List.length_replicate, List.take_replicate, List.drop_replicate]
      rw [show min n.toNat p.2.toNat = n.toNat by omega, show n.toNat - p.2.toNat = 0 by omega, show (n - n).toNat = 0 by omega, show (p.2 - n).toNat = p.2.toNat - n.toNat by omega]
      simp
theorem set_at (P Q : List Pc) (x y : Pc) {i : Nat} (hi : i = P.length) : (P ++ x :: Q).set i y = P ++ y :: Q := by
  subst hi
  induction P with
  | nil => rfl
  | cons a P ih => simp only [List.cons_append, List.length_cons, List.set_cons_succ, ih]
theorem get_at (P Q : List Pc) (x : Pc) {i : Nat} (hi : i = P.length) : (P ++ x :: Q).getD i pz = x := by
  rw [gD_app, if_neg (by omega), show i - P.length = 0 by omega]; rfl
theorem clone_eq {s : List Pc} (h : s.length ≤ 1000000) : slices_Clone_api_Piece_api_Piece s = some s := by
  unfold slices_Clone_api_Piece_api_Piece
  have hf : fits (0 + s.length) 16 = true := fits_t (by omega)
  rw [hf]
  cases s with
  | nil =>
    show bothO (some []) (some ([] ++ [])) = _
    unfold bothO
    exact if_pos rfl
  | cons a s => rfl
theorem cut_eq {f : List Pc} {n : Int} (h : Vol f) (hn : 0 ≤ n ∧ n ≤ 1000000000000) : piece_cut f n = some (joinF (spl f n).1, joinF (spl f n).2) ∧ ref14_Split f n = some (joinF (spl f n).1, joinF (spl f n).2) := by
  have hf := h.1
  have step : ∀ i, i < f.length → (0 ≤ rst (f.take i) n ∧ rst (f.take i) n ≤ n) ∧ spl (f.take (i + 1)) n = ((spl (f.take i) n).1 ++ [((f.getD i pz).1, min (f.getD i pz).2 (rst (f.take i) n))], (spl (f.take i) n).2 ++ [((f.getD i pz).1, (f.getD i pz).2 - min (f.getD i pz).2 (rst (f.take i) n))]) ∧
      rst (f.take (i + 1)) n = rst (f.take i) n - min (f.getD i pz).2 (rst (f.take i) n) ∧ (spl (f.take i) n).1.length = i ∧ (spl (f.take i) n).2.length = i ∧ (0 ≤ (f.getD i pz).2 ∧ (f.getD i pz).2 ≤ 10000000) := by
    intro i hi
    rw [take_next pz hi]
    obtain ⟨a1, a2⟩ := spl_snoc (f.take i) (f.getD i pz) n
    obtain ⟨a3, _⟩ := spl_bd (f := f.take i) hn.1 (h.take i).2
    obtain ⟨a4, a5⟩ := spl_len (f.take i) n
    rw [List.length_take] at a4 a5
    exact ⟨a3, a1, a2, by omega, by omega, h.2 _ (gD_mem hi)⟩
  have k1 := iter_for (step := fun x : Int × Int × List Pc × List Pc => piece_cut_L0 f x.1 x.2.1 x.2.2.1 x.2.2.2) f.length (fun i => (rst (f.take i) n, (i : Int), (spl (f.take i) n).1 ++ f.drop i, (spl (f.take i) n).2 ++ f.drop i)) (e := spl f n) (fun i hi => by
      obtain ⟨a1, a2, a3, a4, a5, a6⟩ := step i hi
      have hd : f.drop i = f.getD i pz :: f.drop (i + 1) := by rw [gD_eq hi, ← List.drop_eq_getElem_cons hi]
      have hl1 : ((spl (f.take i) n).1 ++ f.getD i pz :: f.drop (i + 1)).length = f.length := by simp; omega
      have hl2 : ((spl (f.take i) n).2 ++ f.getD i pz :: f.drop (i + 1)).length = f.length := by simp; omega
      have hl3 : ∀ (P : List Pc) (x : Pc), P.length = i → (P ++ x :: f.drop (i + 1)).length = f.length := by intro P x hP; simp; omega
      unfold piece_cut_L0
      simp only [hd]
      simp only [dec_t (show (i : Int) < (f.length : Int) by omega), cond_true, gd_t (inB_t hi), Int.toNat_natCast, List.length_set, hl1, hl2, hl3 _ _ a4, hl3 _ _ a5, show ((0, 0) : Pc) = pz from rfl,
        get_at _ _ _ a4.symm, get_at _ _ _ a5.symm, set_at _ _ _ _ a4.symm, set_at _ _ _ _ a5.symm]
      rw [a2, a3, wi (by omega), wi (by omega), wi (by omega)]
      simp only [List.append_assoc, List.cons_append, List.nil_append]
      rfl) (by
      unfold piece_cut_L0
      simp only [dec_f (show ¬ (f.length : Int) < (f.length : Int) by omega), cond_false, List.take_length, List.drop_length, List.append_nil])
  have k2 := iter_for (step := fun x : Int × Int × List Pc × List Pc => ref14_Split_L0 f x.1 x.2.1 x.2.2.1 x.2.2.2) f.length (fun i => (rst (f.take i) n, (i : Int), (spl (f.take i) n).1, (spl (f.take i) n).2)) (e := spl f n) (fun i hi => by
      obtain ⟨a1, a2, a3, a4, a5, a6⟩ := step i hi
      unfold ref14_Split_L0
      simp only [dec_t (show (i : Int) < (f.length : Int) by omega), cond_true, gd_t (inB_t hi), Int.toNat_natCast, a4, a5, gd_t (fits_t (show (i + 1) * 16 ≤ 140737488355328 by omega)), show ((0, 0) : Pc) = pz from rfl, Int.min_comm (rst (f.take i) n)]
      rw [a2, a3, wi (by omega), wi (by omega), wi (by omega)]; rfl) (by
      unfold ref14_Split_L0
      simp only [dec_f (show ¬ (f.length : Int) < (f.length : Int) by omega), cond_false, List.take_length])
  have e1 : (rst (f.take 0) n, ((0 : Nat) : Int), (spl (f.take 0) n).1 ++ f.drop 0, (spl (f.take 0) n).2 ++ f.drop 0) = (n, 0, f, f) := rfl
  have e2 : (rst (f.take 0) n, ((0 : Nat) : Int), (spl (f.take 0) n).1, (spl (f.take 0) n).2) = (n, 0, [], []) := rfl
  rw [e1] at k1
  rw [e2] at k2
  obtain ⟨_, v1, v2⟩ := spl_bd (f := f) hn.1 h.2
  obtain ⟨l1, l2⟩ := spl_len f n
  have m1 := merged_eq (f := (spl f n).1) ⟨by omega, v1⟩
  have m2 := merged_eq (f := (spl f n).2) ⟨by omega, v2⟩
  constructor
  · unfold piece_cut
    rw [clone_eq (by omega)]
    simp only [Option.bind_some, k1, m1.1, m2.1]
  · unfold ref14_Split
    simp only [k2, Option.bind_some, m1.2, m2.2]

/-! ### What is valid -/
def tot (f : List Pc) : Int := isum (f.map (·.2))
theorem tot_at (f : List Pc) {i : Nat} (hi : i < f.length) : tot (f.take (i + 1)) = tot (f.take i) + (f.getD i pz).2 := by
  unfold tot
  rw [take_next pz hi, List.map_append, isum_app]
  simp only [List.map_cons, List.map_nil, isum]; omega
theorem tot_bd {f : List Pc} (hl : f.length ≤ 100000) (h : ∀ p ∈ f, 0 ≤ p.2 ∧ p.2 ≤ 10000000) : 0 ≤ tot f ∧ tot f ≤ 1000000000000 := by
  have := isum_bd (l := f.map (·.2)) (a := 0) (b := 10000000) fun v hv => by
    obtain ⟨p, hp, rfl⟩ := List.mem_map.1 hv
    exact h p hp
  rw [List.length_map] at this
  unfold tot; omega
theorem total_eq {f : List Pc} (hl : f.length ≤ 100000) (h : ∀ p ∈ f, 0 ≤ p.2 ∧ p.2 ≤ 10000000) : piece_total f = some (tot f) ∧ ref14_Sum f = some (tot f) := by
  have hb : ∀ i, 0 ≤ tot (f.take i) ∧ tot (f.take i) ≤ 1000000000000 := fun i => tot_bd (by rw [List.length_take]; omega) fun p hp => h p (List.mem_of_mem_take hp)
  have k1 := iter_for (step := fun x : Int × Int => piece_total_L0 f x.1 x.2) f.length (fun i => (tot (f.take i), (i : Int))) (e := tot f) (fun i hi => by
      have b0 := hb i
      have b1 := h _ (gD_mem (d := pz) hi)
      unfold piece_total_L0
      simp only [dec_t (show (i : Int) < (f.length : Int) by omega), cond_true, gd_t (inB_t hi), Int.toNat_natCast, show ((0, 0) : Pc) = pz from rfl]
      rw [tot_at f hi, wi (by omega), wi (by omega)]; rfl) (by
      unfold piece_total_L0
      simp only [dec_f (show ¬ (f.length : Int) < (f.length : Int) by omega), cond_false, List.take_length])
  have k2 := iter_for (step := fun x : Int × Int => ref14_Sum_L0 f x.1 x.2) f.length (fun i => (tot (f.take i), (i : Int))) (e := tot f) (fun i hi => by
      have b0 := hb i
      have b1 := h _ (gD_mem (d := pz) hi)
      unfold ref14_Sum_L0
      simp only [dec_t (show (i : Int) < (f.length : Int) by omega), cond_true, gd_t (inB_t hi), Int.toNat_natCast, show ((0, 0) : Pc) = pz from rfl]
      rw [tot_at f hi, wi (by omega), wi (by omega)]; rfl) (by
      unfold ref14_Sum_L0
      simp only [dec_f (show ¬ (f.length : Int) < (f.length : Int) by omega), cond_false, List.take_length])
  have e0 : (tot (f.take 0), ((0 : Nat) : Int)) = ((0 : Int), (0 : Int)) := rfl
  rw [e0] at k1 k2
  exact ⟨by unfold piece_total; rw [k1]; rfl, by unfold ref14_Sum; rw [k2]; rfl⟩

def okp (f : List Pc) (i : Nat) : Bool := decide (0 ≤ (f.getD i pz).1 ∧ (f.getD i pz).1 ≤ 999) && (decide (1 ≤ (f.getD i pz).2 ∧ (f.getD i pz).2 ≤ 1000000) && (decide (i = 0) || decide ((f.getD (i - 1) pz).1 ≠ (f.getD i pz).1)))
def vB (f : List Pc) : Bool := decide (f.length ≤ 200) && ((List.range f.length).all (okp f) && decide (tot f ≤ 1000000))
/-- A valid fill. -/
structure VF (f : List Pc) : Prop where
  len : f.length ≤ 200
  norm : Norm f
  rng : ∀ p ∈ f, (0 ≤ p.1 ∧ p.1 ≤ 999) ∧ p.2 ≤ 1000000
  tot : tot f ≤ 1000000
theorem vB_iff {f : List Pc} : vB f = true ↔ VF f := by
  unfold vB
  rw [Bool.and_eq_true, Bool.and_eq_true, decide_eq_true_eq, decide_eq_true_eq, all_range]
  constructor
  · rintro ⟨h1, h2, h3⟩
    have h4 : ∀ i, i < f.length → (0 ≤ (f.getD i pz).1 ∧ (f.getD i pz).1 ≤ 999) ∧ (1 ≤ (f.getD i pz).2 ∧ (f.getD i pz).2 ≤ 1000000) ∧ (i ≠ 0 → (f.getD (i - 1) pz).1 ≠ (f.getD i pz).1) := fun i hi => by
      have := h2 i hi
      simp only [okp, Bool.and_eq_true, Bool.or_eq_true, decide_eq_true_eq] at this
      exact ⟨this.1, this.2.1, fun h => this.2.2.resolve_left h⟩
    refine ⟨h1, ⟨fun p hp => ?_, fun i hi => ?_⟩, fun p hp => ?_, h3⟩
    · obtain ⟨k, hk, rfl⟩ := mem_gD pz hp
      exact (h4 k hk).2.1.1
    · have := (h4 (i + 1) hi).2.2 (by omega)
      rwa [Nat.add_sub_cancel] at this
    · obtain ⟨k, hk, rfl⟩ := mem_gD pz hp
      exact ⟨(h4 k hk).1, (h4 k hk).2.1.2⟩
  · intro h
    refine ⟨h.len, fun i hi => ?_, h.tot⟩
    have hm := gD_mem (d := pz) hi
    simp only [okp, Bool.and_eq_true, Bool.or_eq_true, decide_eq_true_eq]
    refine ⟨(h.rng _ hm).1, ⟨h.norm.pos _ hm, (h.rng _ hm).2⟩, ?_⟩
    by_cases h0 : i = 0
    · exact .inl h0
    · right
      have := h.norm.ne (i - 1) (by omega)
      rwa [show i - 1 + 1 = i by omega] at this
theorem valid_eq (f : List Pc) : piece_Valid f = some (vB f) ∧ ref14_Valid f = some (vB f) := by
  unfold piece_Valid ref14_Valid vB
  by_cases hl : f.length ≤ 200
  · rw [dec_f (show ¬ (200 : Int) < (f.length : Int) by omega), dec_t hl]
    simp only [cond_false, Bool.true_and]
    have hr : ∀ i, okp f i = true → 1 ≤ (f.getD i pz).2 ∧ (f.getD i pz).2 ≤ 1000000 := fun i h => by
      simp only [okp, Bool.and_eq_true, decide_eq_true_eq] at h
      exact h.2.1
    have s1 : ∀ i : Nat, i < f.length → piece_Valid_L0 f (i : Int) = bif okp f i then some (.inl ((i + 1 : Nat) : Int)) else some (.inr (.inr false)) := by
      intro i hi
      unfold piece_Valid_L0 piece_litre okp
      simp only [dec_t (show (i : Int) < (f.length : Int) by omega), cond_true, gd_t (inB_t hi), Int.toNat_natCast, show ((0, 0) : Pc) = pz from rfl]
      rw [show wi64 ((i : Int) + 1) = ((i + 1 : Nat) : Int) by rw [wi (by omega)]; rfl]
      have e1 : 0 < i → wi64 ((i : Int) - 1) = ((i - 1 : Nat) : Int) := fun h => by rw [wi (by omega)]; omega
      by_cases c1 : 0 ≤ (f.getD i pz).1
      · by_cases c2 : (f.getD i pz).1 < 1000
        · rw [dec_t c1, dec_t c2, dec_t (show 0 ≤ (f.getD i pz).1 ∧ (f.getD i pz).1 ≤ 999 by omega)]
          by_cases c3 : 0 ≤ (f.getD i pz).2
          · by_cases c4 : (f.getD i pz).2 ≤ 1000000
            · rw [dec_t c3, dec_t c4]
              by_cases c5 : (f.getD i pz).2 = 0
              · rw [dec_t c5, dec_f (show ¬ (1 ≤ (f.getD i pz).2 ∧ (f.getD i pz).2 ≤ 1000000) by omega)]; rfl
              · rw [dec_f c5, dec_t (show (1 ≤ (f.getD i pz).2 ∧ (f.getD i pz).2 ≤ 1000000) by omega)]
                by_cases c6 : i = 0
                · rw [dec_t c6, dec_f (show ¬ (0 : Int) < (i : Int) by omega)]; rfl
                · rw [dec_f c6, dec_t (show (0 : Int) < (i : Int) by omega), e1 (by omega)]
                  simp only [cond_true, cond_false, Option.bind_some, Bool.not_true, gd_t (inB_t (show i - 1 < f.length by omega)), Int.toNat_natCast, Bool.true_and, Bool.false_or]
                  by_cases c7 : (f.getD (i - 1) pz).1 = (f.getD i pz).1
                  · rw [dec_t c7, dec_f (fun h => h c7)]; rfl
                  · rw [dec_f c7, dec_t c7]; rfl
            · rw [dec_t c3, dec_f c4, dec_f (show ¬ (1 ≤ (f.getD i pz).2 ∧ (f.getD i pz).2 ≤ 1000000) by omega)]; rfl
          · rw [dec_f c3, dec_f (show ¬ (1 ≤ (f.getD i pz).2 ∧ (f.getD i pz).2 ≤ 1000000) by omega)]; rfl
        · rw [dec_t c1, dec_f c2, dec_f (show ¬ (0 ≤ (f.getD i pz).1 ∧ (f.getD i pz).1 ≤ 999) by omega)]; rfl
      · rw [dec_f c1, dec_f (show ¬ (0 ≤ (f.getD i pz).1 ∧ (f.getD i pz).1 ≤ 999) by omega)]; rfl
    have hbt : ∀ i, i ≤ f.length → (∀ j, j < i → okp f j = true) → 0 ≤ tot (f.take i) ∧ tot (f.take i) ≤ 1000000000000 := fun i hi hj => tot_bd (by rw [List.length_take]; omega) fun p hp => by
      obtain ⟨k, hk, rfl⟩ := mem_gD pz hp
      rw [List.length_take] at hk
      rw [gD_take, if_pos (by omega)]
      have := hr k (hj k (by omega))
      omega
    have s2 : ∀ i : Nat, i < f.length → (∀ j, j < i → okp f j = true) → ref14_Valid_L0 f (tot (f.take i)) (i : Int) = bif okp f i then some (.inl (tot (f.take (i + 1)), ((i + 1 : Nat) : Int))) else some (.inr (.inr false)) := by
      intro i hi hj
      have hb := hbt i (by omega) hj
      rw [tot_at f hi]
      unfold ref14_Valid_L0 ref14_Proper okp
      simp only [dec_t (show (i : Int) < (f.length : Int) by omega), cond_true, gd_t (inB_t hi), Int.toNat_natCast, show ((0, 0) : Pc) = pz from rfl]
      rw [show wi64 ((i : Int) + 1) = ((i + 1 : Nat) : Int) by rw [wi (by omega)]; rfl]
      have e1 : 0 < i → wi64 ((i : Int) - 1) = ((i - 1 : Nat) : Int) := fun h => by rw [wi (by omega)]; omega
      by_cases c1 : 0 ≤ (f.getD i pz).1
      · by_cases c2 : (f.getD i pz).1 < 1000
        · rw [dec_t c1, dec_t c2, dec_t (show 0 ≤ (f.getD i pz).1 ∧ (f.getD i pz).1 ≤ 999 by omega)]
          by_cases c3 : (f.getD i pz).2 < 1
          · rw [dec_t c3, dec_f (show ¬ (1 ≤ (f.getD i pz).2 ∧ (f.getD i pz).2 ≤ 1000000) by omega)]; rfl
          · by_cases c4 : 1000000 < (f.getD i pz).2
            · rw [dec_f c3, dec_t c4, dec_f (show ¬ (1 ≤ (f.getD i pz).2 ∧ (f.getD i pz).2 ≤ 1000000) by omega)]; rfl
            · rw [dec_f c3, dec_f c4, dec_t (show (1 ≤ (f.getD i pz).2 ∧ (f.getD i pz).2 ≤ 1000000) by omega), show wi64 (tot (f.take i) + (f.getD i pz).2) = tot (f.take i) + (f.getD i pz).2 from wi (by omega)]
              by_cases c6 : i = 0
              · rw [dec_t c6, dec_f (show ¬ (0 : Int) < (i : Int) by omega)]; rfl
              · rw [dec_f c6, dec_t (show (0 : Int) < (i : Int) by omega), e1 (by omega)]
                simp only [cond_true, cond_false, Option.bind_some, Bool.not_true, gd_t (inB_t (show i - 1 < f.length by omega)), Int.toNat_natCast, Bool.true_and, Bool.false_or]
                by_cases c7 : (f.getD (i - 1) pz).1 = (f.getD i pz).1
                · rw [dec_t c7.symm, dec_f (fun h => h c7)]; rfl
                · rw [dec_f (fun h => c7 h.symm), dec_t c7]; rfl
        · rw [dec_t c1, dec_f c2, dec_f (show ¬ (0 ≤ (f.getD i pz).1 ∧ (f.getD i pz).1 ≤ 999) by omega)]; rfl
      · rw [dec_f c1, dec_f (show ¬ (0 ≤ (f.getD i pz).1 ∧ (f.getD i pz).1 ≤ 999) by omega)]; rfl
    have k1 := iter_all (step := fun x => piece_Valid_L0 f x) f.length (fun i => (i : Int)) (okp f) (fin := .inl ()) (bad := .inr false) (fun i hi _ hp => by
        rw [s1 i hi, hp]; rfl) (fun i hi _ hp => by
        rw [s1 i hi, hp]; rfl) (fun _ => by
        unfold piece_Valid_L0
        simp only [dec_f (show ¬ (f.length : Int) < (f.length : Int) by omega), cond_false])
    have k2 := iter_all (step := fun x : Int × Int => ref14_Valid_L0 f x.1 x.2) f.length (fun i => (tot (f.take i), (i : Int))) (okp f) (fin := .inl (tot f)) (bad := .inr false) (fun i hi hj hp => by
        show ref14_Valid_L0 f (tot (f.take i)) (i : Int) = _
        rw [s2 i hi hj, hp]; rfl) (fun i hi hj hp => by
        show ref14_Valid_L0 f (tot (f.take i)) (i : Int) = _
        rw [s2 i hi hj, hp]; rfl) (fun _ => by
        unfold ref14_Valid_L0
        simp only [dec_f (show ¬ (f.length : Int) < (f.length : Int) by omega), cond_false, List.take_length])
    have e0 : (tot (f.take 0), ((0 : Nat) : Int)) = ((0 : Int), (0 : Int)) := rfl
    rw [e0] at k2
    rw [show (0 : Int) = ((0 : Nat) : Int) from rfl, k1]
    rw [show (((0 : Nat) : Int), ((0 : Nat) : Int)) = ((0 : Int), (0 : Int)) from rfl, k2]
    cases ha : (List.range f.length).all (okp f) with
    | false => exact ⟨rfl, rfl⟩
    | true =>
      have hv : ∀ p ∈ f, 0 ≤ p.2 ∧ p.2 ≤ 10000000 := fun p hp => by
        obtain ⟨k, hk, rfl⟩ := mem_gD pz hp
        have := hr k (all_range.1 ha k hk)
        omega
      simp only [cond_true, Option.bind_some, Sum.elim_inl, (total_eq (by omega) hv).1, Bool.true_and]
      exact ⟨trivial, trivial⟩
  · rw [dec_t (show (200 : Int) < (f.length : Int) by omega), dec_f hl]; exact ⟨rfl, rfl⟩
theorem VF.vol {f : List Pc} (h : VF f) : ∀ p ∈ f, 0 ≤ p.2 ∧ p.2 ≤ 10000000 := fun p hp => by
  have h1 := h.norm.pos p hp
  have h2 := (h.rng p hp).2
  omega
theorem VF.elen {f : List Pc} (h : VF f) : ((exp f).length : Int) = Go.Proofs.Ytnhaphgnpgaocaa.tot f := exp_len fun p hp => (h.vol p hp).1
theorem VF.of {F : List Pc} (hl : F.length ≤ 200) (hn : Norm F) (hb : ∀ c ∈ exp F, 0 ≤ c ∧ c ≤ 999) (ht : (exp F).length ≤ 1000000) : VF F := by
  have hle : ((exp F).length : Int) = Go.Proofs.Ytnhaphgnpgaocaa.tot F := exp_len fun p hp => by have := hn.pos p hp; omega
  refine ⟨hl, hn, fun p hp => ⟨hb _ (mem_exp hp (hn.pos p hp)), ?_⟩, by omega⟩
  have := mem_len hp
  omega
theorem VF.batch {f : List Pc} (h : VF f) : ∀ c ∈ exp f, 0 ≤ c ∧ c ≤ 999 := fun c hc => by
  obtain ⟨p, hp, rfl⟩ := exp_mem hc
  exact (h.rng p hp).1

/-! ### A push -/
def pushF (f g : List Pc) (back : Bool) : Int × List Pc × List Pc :=
  if vB f = true ∧ vB g = true then
    (if 200 < (if back = true then joinF (spl (f ++ g) (tot g)).2 else joinF (spl (g ++ f) (tot f)).1).length ∨ 200 < (if back = true then joinF (spl (f ++ g) (tot g)).1 else joinF (spl (g ++ f) (tot f)).2).length then (4, [], [])
      else (0, (if back = true then joinF (spl (f ++ g) (tot g)).2 else joinF (spl (g ++ f) (tot f)).1), if back = true then joinF (spl (f ++ g) (tot g)).1 else joinF (spl (g ++ f) (tot f)).2))
  else (9, [], [])
theorem push_eq (f g : List Pc) (back : Bool) : piece_Push f g back = some (pushF f g back) ∧ ref14_Push f g back = some (pushF f g back) := by
  unfold piece_Push ref14_Push pushF
  rw [(valid_eq f).1, (valid_eq g).1, (valid_eq f).2, (valid_eq g).2]
  cases hf : vB f with
  | false => exact ⟨rfl, rfl⟩
  | true =>
    cases hg : vB g with
    | false => exact ⟨rfl, rfl⟩
    | true =>
      have vf := vB_iff.1 hf
      have vg := vB_iff.1 hg
      have lf := vf.len
      have lg := vg.len
      have tf := total_eq (f := f) (by omega) vf.vol
      have tg := total_eq (f := g) (by omega) vg.vol
      have bf := tot_bd (f := f) (by omega) vf.vol
      have bg := tot_bd (f := g) (by omega) vg.vol
      simp only [Option.bind_some, Bool.not_true, cond_false, and_self, if_true, clone_eq (show f.length ≤ 1000000 by omega), clone_eq (show g.length ≤ 1000000 by omega)]
      have fin : ∀ F O : List Pc, (bif decide ((200 : Int) < (F.length : Int)) then some (true, F, O) else some (decide ((200 : Int) < (O.length : Int)), F, O)).bind (fun s3 : Bool × List Pc × List Pc => bif s3.1 then some ((4 : Int), ([] : List Pc), ([] : List Pc)) else some (0, s3.2.1, s3.2.2)) =
          some (if 200 < F.length ∨ 200 < O.length then (4, [], []) else (0, F, O)) := by
        intro F O
        by_cases c1 : 200 < F.length
        · rw [dec_t (show (200 : Int) < (F.length : Int) by omega), if_pos (.inl c1)]; rfl
        · rw [dec_f (show ¬ (200 : Int) < (F.length : Int) by omega)]
          by_cases c2 : 200 < O.length
          · rw [dec_t (show (200 : Int) < (O.length : Int) by omega), if_pos (.inr c2)]; rfl
          · rw [dec_f (show ¬ (200 : Int) < (O.length : Int) by omega), if_neg (by omega)]; rfl
      have vfg : Vol (f ++ g) := ⟨by simp; omega, fun p hp => (List.mem_append.1 hp).elim (vf.vol p) (vg.vol p)⟩
      have vgf : Vol (g ++ f) := ⟨by simp; omega, fun p hp => (List.mem_append.1 hp).elim (vg.vol p) (vf.vol p)⟩
      cases back with
      | true =>
        have c := cut_eq vfg bg
        simp only [cond_true, if_true, gd_t (fits_t (show (f.length + g.length) * 16 ≤ 140737488355328 by omega)), tg.1, Option.bind_some, c.1]
        refine ⟨fin _ _, ?_⟩
        unfold ref14_Shift
        simp only [cond_true, List.nil_append, gd_t (fits_t (show (0 + f.length) * 16 ≤ 140737488355328 by omega)), gd_t (fits_t (show (f.length + g.length) * 16 ≤ 140737488355328 by omega)), tg.2, Option.bind_some, c.2]
        exact fin _ _
      | false =>
        have c := cut_eq vgf bf
        simp only [cond_false, Bool.false_eq_true, if_false, gd_t (fits_t (show (g.length + f.length) * 16 ≤ 140737488355328 by omega)), tf.1, Option.bind_some, c.1]
        refine ⟨fin _ _, ?_⟩
        unfold ref14_Shift
        simp only [cond_false, List.nil_append, gd_t (fits_t (show (0 + g.length) * 16 ≤ 140737488355328 by omega)), gd_t (fits_t (show (g.length + f.length) * 16 ≤ 140737488355328 by omega)), tf.2, Option.bind_some, c.2]
        exact fin _ _

/-- What is behind a push, and what comes out. -/
structure PushE (f g : List Pc) (back : Bool) (F O : List Pc) : Prop where
  vf : VF f
  vg : VF g
  lF : F.length ≤ 200
  lO : O.length ≤ 200
  nF : Norm F
  nO : Norm O
  bk : back = true → exp O ++ exp F = exp f ++ exp g
  fw : back = false → exp F ++ exp O = exp g ++ exp f
  eF : (exp F).length = (exp f).length
  eO : (exp O).length = (exp g).length
theorem push_iff {f g : List Pc} {back : Bool} {F O : List Pc} : pushF f g back = (0, F, O) ↔ PushE f g back F O := by
  have base : VF f → VF g → ∃ F0 O0, (if back = true then joinF (spl (f ++ g) (tot g)).2 else joinF (spl (g ++ f) (tot f)).1) = F0 ∧ (if back = true then joinF (spl (f ++ g) (tot g)).1 else joinF (spl (g ++ f) (tot f)).2) = O0 ∧ Norm F0 ∧ Norm O0 ∧
      (back = true → exp O0 ++ exp F0 = exp f ++ exp g) ∧ (back = false → exp F0 ++ exp O0 = exp g ++ exp f) ∧ (exp F0).length = (exp f).length ∧ (exp O0).length = (exp g).length := by
    intro vf vg
    refine ⟨_, _, rfl, rfl, ?_⟩
    have bf := tot_bd (f := f) (by have := vf.len; omega) vf.vol
    have bg := tot_bd (f := g) (by have := vg.len; omega) vg.vol
    have ef := vf.elen
    have eg := vg.elen
    cases back with
    | true =>
      have hv : ∀ p ∈ f ++ g, 0 ≤ p.2 ∧ p.2 ≤ 10000000 := fun p hp => (List.mem_append.1 hp).elim (vf.vol p) (vg.vol p)
      obtain ⟨_, v1, v2⟩ := spl_bd (f := f ++ g) (n := tot g) bg.1 hv
      obtain ⟨x1, x2⟩ := spl_exp (f := f ++ g) (n := tot g) bg.1 fun p hp => (hv p hp).1
      obtain ⟨j1, j2⟩ := joinF_ok (f := (spl (f ++ g) (tot g)).1) fun p hp => (v1 p hp).1
      obtain ⟨j3, j4⟩ := joinF_ok (f := (spl (f ++ g) (tot g)).2) fun p hp => (v2 p hp).1
      simp only [if_true]
      rw [j2, j4, x1, x2, exp_app]
      refine ⟨j3, j1, fun _ => List.take_append_drop _ _, fun h => by (cases h), ?_, ?_⟩
      · rw [List.length_drop, List.length_append]; omega
      · rw [List.length_take, List.length_append]; omega
    | false =>
      have hv : ∀ p ∈ g ++ f, 0 ≤ p.2 ∧ p.2 ≤ 10000000 := fun p hp => (List.mem_append.1 hp).elim (vg.vol p) (vf.vol p)
      obtain ⟨_, v1, v2⟩ := spl_bd (f := g ++ f) (n := tot f) bf.1 hv
      obtain ⟨x1, x2⟩ := spl_exp (f := g ++ f) (n := tot f) bf.1 fun p hp => (hv p hp).1
      obtain ⟨j1, j2⟩ := joinF_ok (f := (spl (g ++ f) (tot f)).1) fun p hp => (v1 p hp).1
      obtain ⟨j3, j4⟩ := joinF_ok (f := (spl (g ++ f) (tot f)).2) fun p hp => (v2 p hp).1
      simp only [Bool.false_eq_true, if_false]
      rw [j2, j4, x1, x2, exp_app]
      refine ⟨j1, j3, fun h => by (cases h), fun _ => List.take_append_drop _ _, ?_, ?_⟩
      · rw [List.length_take, List.length_append]; omega
      · rw [List.length_drop, List.length_append]; omega
  unfold pushF
  by_cases hv : vB f = true ∧ vB g = true
  · rw [if_pos hv]
    obtain ⟨F0, O0, e1, e2, n1, n2, b1, b2, l1, l2⟩ := base (vB_iff.1 hv.1) (vB_iff.1 hv.2)
    rw [e1, e2]
    constructor
    · intro h
      by_cases hc : 200 < F0.length ∨ 200 < O0.length
      · rw [if_pos hc] at h; injection h with h; cases h
      · rw [if_neg hc] at h
        injection h with _ h; injection h with h h'; subst h h'
        exact ⟨vB_iff.1 hv.1, vB_iff.1 hv.2, by omega, by omega, n1, n2, b1, b2, l1, l2⟩
    · intro h
      have hF : F0 = F ∧ O0 = O := by
        cases back with
        | true =>
          have h3 := (b1 rfl).trans (h.bk rfl).symm
          have h4 := List.append_inj h3 (by rw [l2, h.eO])
          exact ⟨norm_uniq n1 h.nF h4.2, norm_uniq n2 h.nO h4.1⟩
        | false =>
          have h3 := (b2 rfl).trans (h.fw rfl).symm
          have h4 := List.append_inj h3 (by rw [l1, h.eF])
          exact ⟨norm_uniq n1 h.nF h4.1, norm_uniq n2 h.nO h4.2⟩
      obtain ⟨rfl, rfl⟩ := hF
      rw [if_neg (by have := h.lF; have := h.lO; omega)]
  · rw [if_neg hv]
    constructor
    · intro h; injection h with h; cases h
    · intro h; exact absurd ⟨vB_iff.2 h.vf, vB_iff.2 h.vg⟩ hv
theorem PushE.VF2 {f g F O : List Pc} {back : Bool} (h : PushE f g back F O) : VF F ∧ VF O := by
  have b1 := h.vf.batch
  have b2 := h.vg.batch
  have t1 := h.vf.elen
  have t2 := h.vg.elen
  have t3 := h.vf.tot
  have t4 := h.vg.tot
  have hall : ∀ c, c ∈ exp F ∨ c ∈ exp O → 0 ≤ c ∧ c ≤ 999 := by
    intro c hc
    have : c ∈ exp f ∨ c ∈ exp g := by
      cases hb : back with
      | true =>
        have := h.bk hb
        rw [← List.mem_append, ← this, List.mem_append]; exact hc.symm
      | false =>
        have := h.fw hb
        have h2 : c ∈ exp g ++ exp f := by rw [← this, List.mem_append]; exact hc
        exact (List.mem_append.1 h2).symm
    exact this.elim (b1 c) (b2 c)
  have e1 := h.eF
  have e2 := h.eO
  exact ⟨.of h.lF h.nF (fun c hc => hall c (.inl hc)) (by omega), .of h.lO h.nO (fun c hc => hall c (.inr hc)) (by omega)⟩
end Go.Proofs.Ytnhaphgnpgaocaa
