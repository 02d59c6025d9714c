/- Entries; the law AccountMade. No condition. -/
import Derived.Test.YtmleldfhkangbaaAc3
import Derived.Test.YtmleldfhkangbaaSrc
namespace Go.Proofs.Ytmleldfhkangbaa
open Go Go.Sq

theorem few_eq (l : List Int) : second_Few l = some (decide ((l.length : Int) ≤ 400)) := rfl
theorem smod_eq {x n : Int} (hx : i64P x) (h1 : 1 ≤ n) (h2 : n ≤ 4611686018427387904) : second_Mod x n = some (x % n) := by
  unfold second_Mod; rw [mod_eq hx h1 h2]; rfl

/-- Entries as they are made. -/
structure EntP (e : Ent) : Prop where
  ok : entP e = true
  kind : 1 ≤ e.2.1 ∧ e.2.1 ≤ 4
  vol : -1073741824 ≤ e.2.2 ∧ e.2.2 ≤ 1073741824
  pos : e.2.1 ≠ 4 → 0 ≤ e.2.2
  nm : e.1 ∈ ([[97], [98, 111], [99, 51], [100, 101, 108, 116, 97], [101]] : List (List UInt8))
theorem ent_ok {s : List UInt8} {k v : Int} (hs : s ∈ ([[97], [98, 111], [99, 51], [100, 101, 108, 116, 97], [101]] : List (List UInt8))) (hk : 1 ≤ k ∧ k ≤ 4) (hv : -1073741824 ≤ v ∧ v ≤ 1073741824) (hp : k ≠ 4 → 0 ≤ v) : EntP (s, (k, v)) := by
  refine ⟨?_, hk, hv, hp, hs⟩
  have hn : nameP s = true := by
    simp only [List.mem_cons, List.not_mem_nil, or_false] at hs
    rcases hs with rfl | rfl | rfl | rfl | rfl <;> kernel_rfl
  simp only [entP, Bool.and_eq_true, Bool.or_eq_true, decide_eq_true_eq, volP, sgnP, hn, and_true]
  by_cases h4 : k = 4
  · right; exact ⟨h4, by omega, by omega⟩
  · left; have := hp h4; omega

theorem entries_eq {m : Int} {s : List Int} {p : Int} (h : SrcOk s p) (hm : 0 ≤ m ∧ m ≤ 1000) : Ok (second_Entries m s p) fun r => ∃ (p' : Int) (x : List Ent), r = (s, p', x) ∧ SrcOk s p' ∧ (x.length : Int) ≤ m ∧ ∀ e ∈ x, EntP e := by
  unfold second_Entries
  rw [wi (by omega)]
  obtain ⟨n, p1, q1, q2, q3, q4⟩ := n_eq (n := m + 1) h (by omega) (by omega)
  refine Ok.eq q1 (Ok.bind (Q := fun r => ∃ (p' : Int) (x : List Ent), r = (s, p', x) ∧ SrcOk s p' ∧ (x.length : Int) ≤ m ∧ ∀ e ∈ x, EntP e) ?_ fun r hr => ?_)
  · refine Ok.loop (fun x => ∃ (i p' : Int) (l : List Ent), x = (i, s, p', l) ∧ 0 ≤ i ∧ (l.length : Int) + i ≤ m ∧ SrcOk s p' ∧ ∀ e ∈ l, EntP e) (fun x => x.1.toNat) ⟨n, p1, [], rfl, q2, by simp; omega, q4, by simp⟩ ?_
    rintro _ ⟨i, p', l, rfl, k1, k2, k3, k4⟩
    unfold second_Entries_L0
    refine Ok.bif (fun hi => ?_) (fun hi => Ok.ret ⟨p', l, rfl, k3, by omega, k4⟩)
    have hi := of_decide_eq_true hi
    obtain ⟨a, p2, a1, a2, a3, a4⟩ := n_eq (n := 5) k3 (by omega) (by omega)
    obtain ⟨k, rfl⟩ : ∃ k : Nat, a = (k : Int) := ⟨a.toNat, by omega⟩
    have ht : keep_Src_Text [[97], [98, 111], [99, 51], [100, 101, 108, 116, 97], [101]] s p' = some ([[97], [98, 111], [99, 51], [100, 101, 108, 116, 97], [101]].getD k [], s, p2) := by
      unfold keep_Src_Text
      rw [show (([[97], [98, 111], [99, 51], [100, 101, 108, 116, 97], [101]] : List (List UInt8)).length : Int) = 5 from rfl, a1]
      simp only [Option.bind_some]
      rw [gd_t (inB_t (by simp; omega)), Int.toNat_natCast]
    refine Ok.eq ht ?_
    obtain ⟨b, p3, b1, b2, b3, b4⟩ := n_eq (n := 4) a4 (by omega) (by omega)
    refine Ok.eq b1 ?_
    obtain ⟨c, p4, c1, c2, c3, c4⟩ := n_eq (n := 1000) b4 (by omega) (by omega)
    refine Ok.eq c1 ?_
    obtain ⟨d, p5, d1, d2, d3⟩ := pick_eq (l := [0, 1, 50, c, 1073741824]) c4 (by simp) (by simp)
    refine Ok.eq d1 ?_
    have hd : 0 ≤ d ∧ d ≤ 1073741824 := by
      simp only [List.mem_cons, List.not_mem_nil, or_false] at d2
      omega
    have hk : wi64 (1 + b) = 1 + b := wi (by omega)
    simp only [hk]
    have hmem : ([[97], [98, 111], [99, 51], [100, 101, 108, 116, 97], [101]] : List (List UInt8)).getD k [] ∈ ([[97], [98, 111], [99, 51], [100, 101, 108, 116, 97], [101]] : List (List UInt8)) := gD_mem (by simp; omega)
    refine Ok.bind (Q := fun y => ∃ (t : Bool) (p6 : Int), y = (t, s, p6, l) ∧ SrcOk s p6 ∧ (t = true → 1 + b = 4)) ?_ ?_
    · refine Ok.bif (fun h4 => ?_) (fun _ => Ok.ret ⟨false, p5, rfl, d3, fun h => by cases h⟩)
      obtain ⟨f, p6, f1, f2, f3, f4⟩ := n_eq (n := 2) d3 (by omega) (by omega)
      exact Ok.eq f1 (Ok.ret ⟨_, p6, rfl, f4, fun _ => of_decide_eq_true h4⟩)
    · rintro _ ⟨t, p6, rfl, g1, g2⟩
      refine Ok.bind (Q := fun y => ∃ v : Int, y = (v, l) ∧ (v = d ∨ (v = -d ∧ 1 + b = 4))) ?_ ?_
      · refine Ok.bif (fun ht => Ok.ret ⟨-d, ?_, .inr ⟨rfl, g2 ht⟩⟩) (fun _ => Ok.ret ⟨d, rfl, .inl rfl⟩)
        simp only
        rw [wi (by omega), Int.zero_sub]
      · rintro _ ⟨v, rfl, hv⟩
        simp only
        refine Ok.gd (fits_t (by omega)) (Ok.ret ?_)
        rw [wi (by omega)]
        refine ⟨⟨i - 1, p6, _, rfl, by omega, by simp; omega, g1, fun e he => ?_⟩, by simp only; omega⟩
        rcases List.mem_append.1 he with he | he
        · exact k4 e he
        · rw [List.mem_singleton.1 he]
          exact ent_ok hmem (by omega) (by omega) (by omega)
  · obtain ⟨p', x, rfl, r1, r2, r3⟩ := hr
    exact Ok.ret ⟨p', x, rfl, r1, r2, r3⟩

theorem same39 {a : List Acc} (h : a.length ≤ 1000000) : ref39_Same a a = some true := by
  have := iter_for (step := fun x => ref39_Same_L0 a a x) a.length (fun i => (i : Int)) (e := .inl ()) (fun i hi => by
      unfold ref39_Same_L0
      simp only [dec_t (show (i : Int) < (a.length : Int) by omega), cond_true, gd_t (inB_t hi), decide_true, Bool.and_self, Bool.not_true, cond_false]
      rw [wi (by omega)]; rfl) (by
      unfold ref39_Same_L0
      simp only [dec_f (show ¬ (a.length : Int) < (a.length : Int) by omega), cond_false])
  unfold ref39_Same
  simp only [decide_true, Bool.not_true, cond_false]
  rw [show ((0 : Int)) = ((0 : Nat) : Int) from rfl, this]; rfl
theorem same38 {a : List Ent} (h : a.length ≤ 1000000) : ref38_Same a a = some true := by
  have := iter_for (step := fun x => ref38_Same_L0 a a x) a.length (fun i => (i : Int)) (e := .inl ()) (fun i hi => by
      unfold ref38_Same_L0
      simp only [dec_t (show (i : Int) < (a.length : Int) by omega), cond_true, gd_t (inB_t hi), decide_true, Bool.and_self, Bool.not_true, cond_false]
      rw [wi (by omega)]; rfl) (by
      unfold ref38_Same_L0
      simp only [dec_f (show ¬ (a.length : Int) < (a.length : Int) by omega), cond_false])
  unfold ref38_Same
  simp only [decide_true, Bool.not_true, cond_false]
  rw [show ((0 : Int)) = ((0 : Nat) : Int) from rfl, this]; rfl

theorem bookF_len : ∀ (l : List Ent) (a : List Acc), l.length + a.length ≤ 100000 → (bookF l a).1.length ≤ l.length + a.length
  | [], a, _ => by simp [bookF]
  | e :: r, a, h => by
    simp only [List.length_cons] at h
    have h1 := post_len (l := a) (e := e) (by omega)
    have h2 := bookF_len r (postF a e).1 (by omega)
    unfold bookF
    split
    · simp only [List.length_cons]; omega
    · simp
theorem bookA_len (l : List Ent) : (bookA l).1.length ≤ 1000 := by
  unfold bookA
  split
  · simp
  · have := bookF_len l [] (by simp; omega)
    simp at this; omega
theorem closeF_len {l : List Acc} : ∀ (sh : List Int) (i : Nat) (out : List Acc) (es : List Ent) {p : List Acc × List Ent}, sh.length + out.length ≤ 100000 → closeF l sh i out es = .inl p → p.1.length ≤ sh.length + out.length ∧ p.2.length ≤ sh.length + es.length
  | [], i, out, es, p, _, h => by
    injection h with h; subst h
    exact ⟨by simp, by simp⟩
  | n :: r, i, out, es, p, hl, h => by
    simp only [List.length_cons] at hl
    unfold closeF at h
    split at h
    · have := closeF_len r _ _ _ (by omega) h
      simp only [List.length_cons]; omega
    · split at h
      · have h1 := post_len (l := out) (e := ((l.getD i d0).1, (4, n))) (by omega)
        have := closeF_len r _ _ _ (by omega) h
        simp only [List.length_append, List.length_singleton] at this
        simp only [List.length_cons]; omega
      · cases h
theorem closeA_len {l : List Acc} {m : Int} (hl : l.length ≤ 1000) : (closeA l m).1.length ≤ 2000 ∧ (closeA l m).2.1.length ≤ 2000 := by
  unfold closeA
  split
  · exact ⟨by simp only; omega, by simp⟩
  split
  · exact ⟨by simp only; omega, by simp⟩
  split
  · exact ⟨by simp only; omega, by simp⟩
  · obtain ⟨r, q1, q2, q3⟩ := allot_both (m - stockP (sumA l)) (col2 l)
    rw [q2, Option.getD_some]
    cases hc : closeF l r.1 0 l [] with
    | inl p =>
      have := closeF_len _ _ _ _ (by omega) hc
      simp only [Sum.elim_inl]
      simp only [List.length_nil] at this
      omega
    | inr u => exact ⟨by simp only [Sum.elim_inr]; omega, by simp⟩

theorem made_true {l : List Int} {raw : List Acc} {e : Ent} {odd by' : Int} (hl : ∀ x ∈ l, i64P x) (ho : i64P odd) (hb : i64P by') : law39_AccountMade l raw e odd by' = some true := by
  refine Ok.true ?_
  unfold law39_AccountMade
  rw [few_eq]
  refine Ok.bind (Q := fun s => s = false → raw.length ≤ 100) ?_ fun s hs => ?_
  · refine Ok.eq rfl (Ok.bif (fun _ => Ok.ret fun h => by cases h) (fun _ => Ok.ret fun h => ?_))
    have := of_decide_eq_false h
    omega
  refine Ok.bif (fun _ => Ok.eq awake_true (Ok.ret rfl)) (fun hs0 => ?_)
  have hraw := hs hs0
  obtain ⟨s, q1, q2⟩ := new_eq hl
  refine Ok.eq q1 (Ok.bind (entries_eq q2 (by omega)) ?_)
  rintro _ ⟨p1, x, rfl, a1, a2, a3⟩
  have hbl := bookA_len x
  refine Ok.eq (book_eq x) (Ok.eq (rbook_eq x) ?_)
  refine Ok.bind (Q := fun s => s = false) ?_ ?_
  · refine Ok.bif (fun h => by simp at h) (fun _ => Ok.eq (same39 (by omega)) (Ok.ret rfl))
  rintro _ rfl
  refine Ok.bif (fun h => by cases h) (fun _ => Ok.gd (fits_t (by omega)) ?_)
  obtain ⟨n, p2, b1, b2, b3, b4⟩ := n_eq (n := 2000) a1 (by omega) (by omega)
  refine Ok.eq b1 (Ok.bind (Q := fun r => r.1.length ≤ 1000) ?_ ?_)
  · rw [List.nil_append]
    refine Ok.bif (fun h0 => ?_) (fun _ => Ok.ret hbl)
    have h0 := of_decide_eq_true h0
    refine Ok.eq (smod_eq hb (by omega) (by omega)) ?_
    have m1 := Int.emod_nonneg by' (show ((bookA x).1.length : Int) ≠ 0 by omega)
    have m2 := Int.emod_lt_of_pos by' h0
    refine Ok.gd (inB_iff.2 ⟨m1, m2⟩) (Ok.eq (smod_eq ho (by omega) (by omega)) ?_)
    refine Ok.bind (Q := fun r => r.1.length ≤ 1000) ?_ fun r hr => Ok.ret hr
    refine Ok.bif (fun _ => Ok.ret (by simp; omega)) (fun _ => Ok.bind (Q := fun r => r.1.length ≤ 1000) ?_ fun r hr => Ok.ret hr)
    refine Ok.bif (fun _ => Ok.eq (smod_eq hb (by omega) (by omega)) (Ok.gd ?_ (Ok.ret (by simp; omega)))) (fun _ => Ok.bind (Q := fun r => r.1.length ≤ 1000) ?_ fun r hr => Ok.ret hr)
    · have m3 := Int.emod_nonneg by' (show (4 : Int) ≠ 0 by omega)
      have m4 := Int.emod_lt_of_pos by' (show (0 : Int) < 4 by omega)
      exact inB_iff.2 ⟨m3, by simpa using m4⟩
    refine Ok.bif (fun _ => Ok.eq (smod_eq hb (by omega) (by omega)) (Ok.ret (by simp; omega))) (fun _ => Ok.bind (Q := fun r => r.1.length ≤ 1000) ?_ fun r hr => Ok.ret hr)
    refine Ok.bif (fun _ => Ok.ret (by simp; omega)) (fun _ => Ok.bind (Q := fun r => r.1.length ≤ 1000) ?_ fun r hr => Ok.ret hr)
    refine Ok.bif (fun _ => Ok.ret hbl) (fun _ => Ok.bind (Q := fun r => r.length ≤ 1000) ?_ fun r hr => Ok.ret hr)
    refine Ok.bif (fun _ => Ok.ret (by omega)) (fun _ => Ok.bind (Q := fun r => r.length ≤ 1000) ?_ fun r hr => Ok.ret hr)
    exact Ok.bif (fun _ => Ok.ret (by simp; omega)) (fun _ => Ok.ret hbl)
  rintro ⟨y, m⟩ hy
  simp only at hy
  refine Ok.bind (entries_eq b4 (by omega)) ?_
  rintro _ ⟨p3, z, rfl, c1, c2, c3⟩
  refine Ok.bind (Q := fun r => r.2 = z) ?_ ?_
  · exact Ok.bif (fun _ => Ok.ret rfl) (fun _ => Ok.ret rfl)
  rintro ⟨u, z'⟩ hz
  simp only at hz
  subst hz
  refine Ok.bind (Q := fun w : List Ent => w.length ≤ 1000) ?_ ?_
  · exact Ok.bif (fun _ => Ok.gd (fits_t (by simp only; omega)) (Ok.ret (by simp; omega))) (fun _ => Ok.ret (by simp only; omega))
  intro w hw
  refine Ok.bind (Q := fun s => s = .inl ()) ?_ ?_
  · refine Ok.loop (fun q => ∃ i : Nat, q = ((i : Int), w) ∧ i ≤ w.length) (fun q => ((w.length : Int) - q.1).toNat) ⟨0, rfl, by omega⟩ ?_
    rintro _ ⟨i, rfl, hi⟩
    unfold law39_AccountMade_L0
    simp only
    refine Ok.bif (fun hlt => ?_) (fun _ => Ok.ret rfl)
    have hlt := of_decide_eq_true hlt
    have hi' : i < w.length := by omega
    have hp := post_eq (l := y) (e := w.getD i e0) (by omega)
    have hpl := post_len (l := y) (e := w.getD i e0) (by omega)
    refine Ok.gd (inB_t hi') (Ok.eq hp.1 (Ok.gd (inB_t hi') (Ok.eq hp.2.1 ?_)))
    refine Ok.bind (Q := fun s => s = (false, w)) ?_ ?_
    · exact Ok.bif (fun h => by simp at h) (fun _ => Ok.eq (same39 (by simp only; omega)) (Ok.ret rfl))
    rintro _ rfl
    refine Ok.bif (fun h => by cases h) (fun _ => Ok.ret ?_)
    rw [wi (by omega)]
    exact ⟨⟨i + 1, rfl, by omega⟩, by simp only; omega⟩
  rintro _ rfl
  obtain ⟨k1, k2⟩ := close_both (l := y) (m := m) hy
  obtain ⟨k3, k4⟩ := closeA_len (l := y) (m := m) hy
  refine Ok.eq k1 (Ok.eq k2 (Ok.eq (sum_eq (by simp only; omega)) (Ok.eq (rsum_eq (by simp only; omega)) ?_)))
  refine Ok.bif (fun _ => ?_) (fun h => by simp at h)
  refine Ok.bif (fun _ => ?_) (fun h => by simp at h)
  refine Ok.bif (fun _ => ?_) (fun h => by simp at h)
  refine Ok.eq (same39 (by simp only; omega)) (Ok.bif (fun _ => ?_) (fun h => by cases h))
  refine Ok.eq (same38 (by simp only; omega)) (Ok.bif (fun _ => ?_) (fun h => by cases h))
  refine Ok.eq (valid_eq (by simp only; omega)) (Ok.eq (rvalid_eq (by simp only; omega)) (Ok.bif (fun _ => ?_) (fun h => by simp at h)))
  refine Ok.eq rfl (Ok.eq rfl (Ok.bif (fun _ => Ok.eq awake_true (Ok.ret rfl)) (fun h => ?_)))
  have := of_decide_eq_false h
  exact absurd rfl this
end Go.Proofs.Ytmleldfhkangbaa
