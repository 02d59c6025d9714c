/- The law LinesAnswers, in plain Lean: the whole of it. No condition. -/
import Derived.Test.YtmhoomlmmecmdaaDoorLi9
namespace Go.Proofs.YtmhoomlmmecmdaaDoor
open Go Go.Sq

theorem ans_L1 (raw : List (List Str)) (v : Nat) (hv : v < raw.length) (h30 : (raw.getD v []).length ≤ 30) : Ok (iter (fun x => law03_LinesAnswers_L1 raw (v : Int) x) 0) (fun e => e = .inr true ∨ (e = .inl () ∧ ∀ x ∈ raw.getD v [], x.length ≤ 60)) := by
  refine Ok.loop (fun x : Int => ∃ k : Nat, x = (k : Int) ∧ k ≤ (raw.getD v []).length ∧ ∀ x ∈ (raw.getD v []).take k, x.length ≤ 60) (fun x => (raw.getD v []).length - x.toNat) ⟨0, rfl, by omega, fun x hx => by simp at hx⟩ ?_
  rintro i ⟨k, rfl, g1, g2⟩
  unfold law03_LinesAnswers_L1
  rw [Int.toNat_natCast]
  refine Ok.bif (fun hh => ?_) fun hh => ?_
  · have hh := of_decide_eq_true hh
    have hk : k < (raw.getD v []).length := by omega
    refine Ok.gd (inB_t hv) (Ok.gd (inB_t hk) ?_)
    rw [Int.toNat_natCast]
    refine Ok.bif (fun hb => ?_) fun hb => ?_
    · exact Ok.eq awake_true (.ret (.inl rfl))
    · have hb := of_decide_eq_false hb
      rw [w1 hk (by omega)]
      refine .ret ⟨⟨k + 1, rfl, by omega, fun x hx => ?_⟩, by simp only [Int.toNat_natCast]; omega⟩
      rw [take_next [] hk] at hx
      rcases List.mem_append.1 hx with hx | hx
      · exact g2 x hx
      · rw [List.mem_singleton.1 hx]; omega
  · have hh := of_decide_eq_false hh
    refine .ret (.inr ⟨rfl, fun x hx => g2 x ?_⟩)
    rwa [List.take_of_length_le (by omega)]
def RawOk (raw : List (List Str)) : Prop := ∀ w ∈ raw, w.length ≤ 30 ∧ ∀ x ∈ w, x.length ≤ 60
theorem ans_L0 (raw : List (List Str)) (h60 : raw.length ≤ 60) : Ok (iter (fun x2 => law03_LinesAnswers_L0 raw x2) 0) (fun e => e = .inr true ∨ (e = .inl () ∧ RawOk raw)) := by
  refine Ok.loop (fun x : Int => ∃ k : Nat, x = (k : Int) ∧ k ≤ raw.length ∧ RawOk (raw.take k)) (fun x => raw.length - x.toNat) ⟨0, rfl, by omega, fun x hx => by simp at hx⟩ ?_
  rintro i ⟨k, rfl, g1, g2⟩
  unfold law03_LinesAnswers_L0
  refine Ok.bif (fun hh => ?_) fun hh => ?_
  · have hh := of_decide_eq_true hh
    have hk : k < raw.length := by omega
    refine Ok.gd (inB_t hk) ?_
    rw [Int.toNat_natCast]
    refine Ok.bif (fun hb => ?_) fun hb => ?_
    · exact Ok.eq awake_true (.ret (.inl rfl))
    · have hb := of_decide_eq_false hb
      refine Ok.gd (inB_t hk) ?_
      refine Ok.bind (ans_L1 raw k hk (by omega)) fun e he => ?_
      rcases he with rfl | ⟨rfl, he⟩
      · exact .ret (.inl rfl)
      · simp only [Sum.elim_inl]
        rw [w1 hk (by omega)]
        refine .ret ⟨⟨k + 1, rfl, by omega, fun w hw => ?_⟩, by simp only [Int.toNat_natCast]; omega⟩
        rw [take_next [] hk] at hw
        rcases List.mem_append.1 hw with hw | hw
        · exact g2 w hw
        · rw [List.mem_singleton.1 hw]; exact ⟨by omega, he⟩
  · have hh := of_decide_eq_false hh
    refine .ret (.inr ⟨rfl, fun w hw => g2 w ?_⟩)
    rwa [List.take_of_length_le (by omega)]
/-- What is read is of moderate size. -/
theorem linesM_sz : ∀ {ls : List Str} {c : List (List Str)}, linesM ls = some c → c.length = ls.length ∧ ∀ w ∈ c, w.length ≤ 16 := fun h =>
  ⟨(linesM_ok h).1, fun w hw => (proper_all ((linesM_ok h).2.2 w hw).1).2.2⟩
theorem spec_same (t : Str) : ref03_Same (specSplit t).1 (specSplit t).1 = some true := by
  unfold specSplit
  cases hb : (Nat.blt 16384 t.length || Nat.blt 400 (lns t).length) with
  | true => exact same_refl (by simp) (fun w hw => by cases hw)
  | false =>
    rw [Bool.or_eq_false_iff] at hb
    have h4 : ¬ 400 < (lns t).length := fun h => by rw [show Nat.blt 400 (lns t).length = true by rw [Nat.blt_eq]; exact h] at hb; cases hb.2
    rw [cond_false]
    cases hm : linesM (lns t) with
    | none => exact same_refl (by simp) (fun w hw => by cases hw)
    | some c =>
      obtain ⟨i1, i2⟩ := linesM_sz hm
      exact same_refl (by show c.length ≤ _; omega) (fun w hw => by have := i2 w hw; omega)
theorem ans_L2 (s : Str) (r7 : Str × Int) (a b : List (List Str)) (hs : s.length ≤ 2000) (hr : r7.1.length ≤ 16384) : iter (fun x3 => law03_LinesAnswers_L2 s r7 x3.1 x3.2.1 x3.2.2) (0, a, b) = some (.inl (a, b)) := by
  refine ok_eq ?_
  refine Ok.loop (fun x : Int × List (List Str) × List (List Str) => ∃ k : Nat, x.1 = (k : Int) ∧ k ≤ 6 ∧ x.2 = (a, b)) (fun x => 6 - x.1.toNat) ⟨0, rfl, by omega, rfl⟩ ?_
  rintro ⟨v, a', b'⟩ ⟨k, g1, g2, g3⟩
  simp only at g1 g3
  subst g1
  injection g3 with g3 g4
  subst g3 g4
  unfold law03_LinesAnswers_L2
  simp only
  have hall : ∀ x ∈ [s, r7.1, r7.1 ++ s, r7.1 ++ [32], [35, 32] ++ s, r7.1 ++ [35]], x.length ≤ 1000000 := by
    intro x hx
    simp only [List.mem_cons, List.not_mem_nil, or_false] at hx
    rcases hx with rfl | rfl | rfl | rfl | rfl | rfl <;> (try simp) <;> omega
  have hlen : [s, r7.1, r7.1 ++ s, r7.1 ++ [32], [35, 32] ++ s, r7.1 ++ [35]].length = 6 := rfl
  generalize [s, r7.1, r7.1 ++ s, r7.1 ++ [32], [35, 32] ++ s, r7.1 ++ [35]] = L at hall hlen
  refine Ok.bif (fun hh => ?_) fun hh => ?_
  · have hh := of_decide_eq_true hh
    have hk : k < L.length := by omega
    refine Ok.gd (inB_t hk) ?_
    rw [Int.toNat_natCast]
    have hx := hall _ (gD_mem (d := []) hk)
    refine Ok.eq (lsplit_eq _ hx) (Ok.eq (rsplit_eq _ hx) ?_)
    rw [spec_same, Option.bind_some, Bool.not_true, cond_false, dec_t rfl, Option.bind_some]
    simp only [Bool.not_true, cond_false]
    rw [w1 hk (by omega)]
    exact .ret ⟨⟨k + 1, rfl, by omega, rfl⟩, by simp only [Int.toNat_natCast]; omega⟩
  · exact .ret rfl
theorem ans_L3 (raw a b : List (List Str)) (hr : BJ raw) (ha : BJ a) (hb : BJ b) : iter (fun x4 => law03_LinesAnswers_L3 raw (a, b) x4) 0 = some (.inl ()) := by
  refine ok_eq ?_
  refine Ok.loop (fun x : Int => ∃ k : Nat, x = (k : Int) ∧ k ≤ 4) (fun x => 4 - x.toNat) ⟨0, rfl, by omega⟩ ?_
  rintro v ⟨k, rfl, g2⟩
  unfold law03_LinesAnswers_L3
  simp only
  have hc : BJ [[[97], [98], [99], [100], [101], [102], [103], [104], [105], [106], [107], [108], [109], [110], [111], [112], [113]]] := by
    intro w hw
    rw [List.mem_singleton.1 hw]
    exact ⟨by decide, by decide⟩
  have hall : ∀ x ∈ [raw, a, b, [[[97], [98], [99], [100], [101], [102], [103], [104], [105], [106], [107], [108], [109], [110], [111], [112], [113]]]], BJ x := by
    intro x hx
    simp only [List.mem_cons, List.not_mem_nil, or_false] at hx
    rcases hx with rfl | rfl | rfl | rfl
    · exact hr
    · exact ha
    · exact hb
    · exact hc
  have hlen : [raw, a, b, [[[97], [98], [99], [100], [101], [102], [103], [104], [105], [106], [107], [108], [109], [110], [111], [112], [113]]]].length = 4 := rfl
  generalize [raw, a, b, [[[97], [98], [99], [100], [101], [102], [103], [104], [105], [106], [107], [108], [109], [110], [111], [112], [113]]]] = L at hall hlen
  refine Ok.bif (fun hh => ?_) fun hh => ?_
  · have hh := of_decide_eq_true hh
    have hk : k < L.length := by omega
    refine Ok.gd (inB_t hk) ?_
    rw [Int.toNat_natCast]
    have hx := hall _ (gD_mem (d := []) hk)
    refine Ok.eq (ljoin_eq _ hx) (Ok.eq (rjoin_eq _ hx) ?_)
    rw [dec_t rfl, dec_t rfl, Bool.not_true, cond_false, Option.bind_some, cond_false, w1 hk (by omega)]
    exact .ret ⟨⟨k + 1, rfl, by omega⟩, by simp only [Int.toNat_natCast]; omega⟩
  · exact .ret rfl
theorem ans_L4 (s t : Str) (hs : s.length ≤ 2000) (ht : t.length ≤ 2000) : iter (fun x5 => law03_LinesAnswers_L4 s t x5) 0 = some (.inl ()) := by
  refine ok_eq ?_
  refine Ok.loop (fun x : Int => ∃ k : Nat, x = (k : Int) ∧ k ≤ 11) (fun x => 11 - x.toNat) ⟨0, rfl, by omega⟩ ?_
  rintro v ⟨k, rfl, g2⟩
  unfold law03_LinesAnswers_L4
  generalize hL : [s, t, [57, 48, 48, 55, 49, 57, 57, 50, 53, 52, 55, 52, 48, 57, 57, 50], [57, 48, 48, 55, 49, 57, 57, 50, 53, 52, 55, 52, 48, 57, 57, 51], [45, 57, 48, 48, 55, 49, 57, 57, 50, 53, 52, 55, 52, 48, 57, 57, 50], [45, 57, 48, 48, 55, 49, 57, 57, 50, 53, 52, 55, 52, 48, 57, 57, 51], [97], [45], [48, 49], [97, 45, 98, 45, 99, 45, 100, 45, 101, 45, 102, 45], [97, 98, 99, 100, 101, 102, 103, 104, 105, 106, 107, 108, 109]] = L
  have hlen : L.length = 11 := by rw [← hL]; rfl
  have hall : ∀ x ∈ L, x.length ≤ 2000 := by
    rw [← hL]
    intro x hx
    rcases List.mem_cons.1 hx with rfl | hx
    · exact hs
    rcases List.mem_cons.1 hx with rfl | hx
    · exact ht
    have hlit : ∀ x ∈ ([[57, 48, 48, 55, 49, 57, 57, 50, 53, 52, 55, 52, 48, 57, 57, 50], [57, 48, 48, 55, 49, 57, 57, 50, 53, 52, 55, 52, 48, 57, 57, 51], [45, 57, 48, 48, 55, 49, 57, 57, 50, 53, 52, 55, 52, 48, 57, 57, 50], [45, 57, 48, 48, 55, 49, 57, 57, 50, 53, 52, 55, 52, 48, 57, 57, 51], [97], [45], [48, 49], [97, 45, 98, 45, 99, 45, 100, 45, 101, 45, 102, 45], [97, 98, 99, 100, 101, 102, 103, 104, 105, 106, 107, 108, 109]] : List Str), x.length ≤ 2000 := by decide
    exact hlit x hx
  refine Ok.bif (fun hh => ?_) fun hh => ?_
  · have hh := of_decide_eq_true hh
    have hk : k < L.length := by omega
    refine Ok.gd (inB_t hk) ?_
    rw [Int.toNat_natCast]
    have hx := hall _ (gD_mem (d := []) hk)
    refine Ok.eq (num_eq _ (by omega)) (Ok.eq (rnum_eq _ (by omega)) ?_)
    rw [dec_t rfl, dec_t rfl, Bool.not_true, cond_false, cond_false, lname_eq _ (by omega), Option.bind_some, rname_eq _ (by omega), Option.bind_some, Option.bind_some, beq_self_eq_true, Bool.not_true, cond_false, w1 hk (by omega)]
    exact .ret ⟨⟨k + 1, rfl, by omega⟩, by simp only [Int.toNat_natCast]; omega⟩
  · exact .ret rfl
theorem text_step2 (s : Int × List UInt8) (hs : s.2.length ≤ 1) (n : Nat) (acc : List UInt8) (hn : n < 4611686018427387904) (hacc : acc.length ≤ 100) :
    ref03_Text_L0 s (n : Int) acc = bif decide (n < 10) then some (.inr (s.2 ++ (chr n :: acc))) else some (.inl (((n / 10 : Nat) : Int), chr n :: acc)) := by
  have e1 : Int.tmod (n : Int) 10 = ((n % 10 : Nat) : Int) := by rw [Int.tmod_eq_emod_of_nonneg (by omega)]; omega
  have e2 : Int.tdiv (n : Int) 10 = ((n / 10 : Nat) : Int) := by rw [Int.tdiv_eq_ediv_of_nonneg (by omega)]; omega
  have e3 : toBytes [wu8 (wi64 (48 + Int.tmod (n : Int) 10))] = [chr n] := by
    rw [e1, wi (by omega), show wu8 (48 + ((n % 10 : Nat) : Int)) = 48 + ((n % 10 : Nat) : Int) from IntWalk.u8_in _ (by omega)]
    show [UInt8.ofNat (48 + ((n % 10 : Nat) : Int)).toNat] = [UInt8.ofNat (48 + n % 10)]
    rw [show (48 + ((n % 10 : Nat) : Int)).toNat = 48 + n % 10 by omega]
  unfold ref03_Text_L0
  simp only [e3, e2]
  rw [gd_t (Nat.ble_eq_true_of_le (by simp; omega)), wi (by omega)]
  by_cases h : n < 10
  · rw [dec_t (show ((n / 10 : Nat) : Int) ≤ 0 by omega), dec_t h, cond_true, cond_true, gd_t (Nat.ble_eq_true_of_le (by simp; omega))]; rfl
  · rw [dec_f (show ¬ ((n / 10 : Nat) : Int) ≤ 0 by omega), dec_f h]; rfl
/-- The text of any number but the least. -/
theorem text_any (k : Int) (h1 : -4611686018427387904 < k) (h2 : k < 4611686018427387904) : ∃ t, ref03_Text k = some t ∧ t.length ≤ 2000 := by
  have key : ∀ (s : Int × Str), s.2.length ≤ 1 → ∀ (m n : Nat) (acc : Str), n < 4611686018427387904 → n < 10 ^ (m + 1) → acc.length + m ≤ 20 → ∃ t, iter (fun x => ref03_Text_L0 s x.1 x.2) ((n : Int), acc) = some t ∧ t.length ≤ 2000 := by
    intro s hs m
    induction m with
    | zero =>
      intro n acc hn hn2 hacc
      have hn2 : n < 10 := by simpa using hn2
      refine ⟨s.2 ++ (chr n :: acc), iter_inr ?_, by simp; omega⟩
      show ref03_Text_L0 s (n : Int) acc = _
      rw [text_step2 s hs n acc (by omega) (by omega), dec_t hn2]; rfl
    | succ m ih =>
      intro n acc hn hn2 hacc
      by_cases h10 : n < 10
      · exact ih n acc hn (Nat.lt_of_lt_of_le h10 (Nat.le_self_pow (by omega) 10)) (by omega)
      · obtain ⟨t, e, ht⟩ := ih (n / 10) (chr n :: acc) (by omega) (by rw [Nat.pow_succ] at hn2; exact Nat.div_lt_of_lt_mul (by rw [Nat.mul_comm]; exact hn2)) (by simp; omega)
        refine ⟨t, (iter_inl (y := (((n / 10 : Nat) : Int), chr n :: acc)) ?_).trans e, ht⟩
        show ref03_Text_L0 s (n : Int) acc = _
        rw [text_step2 s hs n acc hn (by omega), dec_f h10]; rfl
  unfold ref03_Text
  by_cases hk : k < 0
  · rw [dec_t hk, cond_true, Option.bind_some]
    have e : wi64 (0 - k) = (k.natAbs : Int) := by rw [wi (by omega)]; omega
    rw [e]
    obtain ⟨t, e1, e2⟩ := key ((k.natAbs : Int), [45]) (by simp) 18 k.natAbs [] (by omega) (by omega) (by simp)
    exact ⟨t, by rw [e1]; rfl, e2⟩
  · rw [dec_f hk, cond_false, Option.bind_some]
    have e : ((k.natAbs : Nat) : Int) = k := by omega
    obtain ⟨t, e1, e2⟩ := key (k, []) (by simp) 18 k.natAbs [] (by omega) (by omega) (by simp)
    rw [e] at e1
    exact ⟨t, by rw [e1]; rfl, e2⟩
theorem answers_true (s : Str) (raw : List (List Str)) {l : List Int} (hl : ∀ x ∈ l, i64P x) : law03_LinesAnswers s raw l = some true := by
  refine Ok.true ?_
  unfold law03_LinesAnswers
  refine Ok.bind (Q := fun b => b = true ∨ (s.length ≤ 2000 ∧ raw.length ≤ 60)) ?_ fun b hb => ?_
  · refine Ok.bif (fun hh => .ret (.inl rfl)) fun hh => ?_
    have hh := of_decide_eq_false hh
    cases h : decide (60 < (raw.length : Int)) with
    | true => exact .ret (.inl rfl)
    | false => have h := of_decide_eq_false h; exact .ret (.inr ⟨by omega, by omega⟩)
  refine Ok.bif (fun hh => ?_) fun hh => ?_
  · exact Ok.eq awake_true (.ret rfl)
  · rcases hb with rfl | ⟨hs, hr60⟩
    · cases hh
    refine Ok.bind (ans_L0 raw hr60) fun e he => ?_
    rcases he with rfl | ⟨rfl, hraw⟩
    · exact .ret rfl
    simp only [Sum.elim_inl]
    obtain ⟨s1, p1, a, e1, e2, ha, hsrc⟩ := made0 hl
    refine Ok.eq e1 ?_
    refine Ok.eq e2 ?_
    refine Ok.bind (made_ok 1 hsrc) ?_
    rintro ⟨s2, p2, b⟩ ⟨b1, b2, b3, b4⟩
    simp only at b1 b2 b3 b4 ⊢
    subst b1
    have hbA := made_bj ha
    have hbB : BJ b := fun w hw => ⟨by have := (b4 w hw).1; omega, fun x hx => by have := ((b4 w hw).2 x hx).1; omega⟩
    have hbR : BJ raw := fun w hw => ⟨by have := (hraw w hw).1; omega, fun x hx => by have := (hraw w hw).2 x hx; omega⟩
    have htx := made_txt ha
    have hn := ha.n
    refine Ok.eq ((rjoin_eq a hbA).trans (by rw [join_txt ha.p (by omega) (by omega)])) ?_
    simp only
    refine Ok.gd (Nat.ble_eq_true_of_le (by omega)) (Ok.gd (Nat.ble_eq_true_of_le (by simp; omega)) (Ok.gd (Nat.ble_eq_true_of_le (by simp; omega)) (Ok.gd (Nat.ble_eq_true_of_le (by simp; omega)) ?_)))
    refine Ok.eq (ans_L2 s (txt a, 0) a b hs (by show (txt a).length ≤ _; omega)) ?_
    simp only [Sum.elim_inl]
    refine Ok.eq (ans_L3 raw a b hbR hbA hbB) ?_
    simp only [Sum.elim_inl]
    obtain ⟨r, p', er, hr, _⟩ := raw_eq b2
    refine Ok.eq er ?_
    simp only
    obtain ⟨t, et, ht⟩ := text_any (Int.tmod r 4611686018427387904) (by
      rcases Int.le_total 0 r with h | h
      · rw [Int.tmod_eq_emod_of_nonneg h]; omega
      · have e : Int.tmod r 4611686018427387904 = -(Int.tmod (-r) 4611686018427387904) := by rw [Int.neg_tmod, Int.neg_neg]
        rw [e, Int.tmod_eq_emod_of_nonneg (by omega)]; omega) (by
      have := Int.tmod_lt_of_pos r (b := 4611686018427387904) (by decide)
      omega)
    refine Ok.eq et ?_
    refine Ok.eq (ans_L4 s t hs ht) ?_
    simp only [Sum.elim_inl]
    exact Ok.eq awake_true (.ret rfl)
end Go.Proofs.YtmhoomlmmecmdaaDoor
