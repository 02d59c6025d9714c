/- Tables of products that the statements make. No condition. -/
import Derived.Test.YtihbfecdccamoaaGreatDoorPr5
namespace Go.Proofs.YtihbfecdccamoaaGreatDoor
open Go Go.Sq
set_option linter.unusedVariables false
structure GoodP (k : Nat) (p : Pro) : Prop where
  nm : p.1 = [112, UInt8.ofNat (97 + k)]
  d : 400 ≤ p.2.1 ∧ p.2.1 ≤ 1200
  e : p.2.2.1 ∈ ([0, 830, 2000, 1] : List Int)
  c : p.2.2.2.1 ∈ ([0, 800, 5000, 3] : List Int)
  f : p.2.2.2.2 ∈ ([1, 700, 1000, 1300, 2000] : List Int)
structure GoodL (l : List Pro) : Prop where
  n0 : 1 ≤ l.length
  n4 : l.length ≤ 4
  p : ∀ k, k < l.length → GoodP k (l.getD k P0)
theorem kname (k : Nat) (h : k < 4) : keep_name [112] (k : Int) = some [112, UInt8.ofNat (97 + k)] := by
  match k, h with
  | 0, _ => rfl
  | 1, _ => rfl
  | 2, _ => rfl
  | 3, _ => rfl
theorem prod_ok (k : Nat) (hk : k < 4) {s : List Int} {p : Int} (h : SrcOk s p) : Ok (keep_Src_Product (k : Int) s p) (fun r => r.2.1 = s ∧ SrcOk s r.2.2 ∧ GoodP k r.1) := by
  unfold keep_Src_Product
  rw [kname k hk, Option.bind_some]
  obtain ⟨r2, p2, e2, a2, b2, h2⟩ := range_eq (lo := 400) (hi := 1200) h (by omega) (by omega) (by omega)
  refine Ok.eq e2 ?_
  obtain ⟨r3, p3, e3, a3, h3⟩ := pick_eq (l := [0, 830, 2000, 1]) h2 (by simp) (by simp)
  refine Ok.eq e3 ?_
  obtain ⟨r4, p4, e4, a4, h4⟩ := pick_eq (l := [0, 800, 5000, 3]) h3 (by simp) (by simp)
  refine Ok.eq e4 ?_
  obtain ⟨r5, p5, e5, a5, h5⟩ := pick_eq (l := [1, 700, 1000, 1300, 2000]) h4 (by simp) (by simp)
  refine Ok.eq e5 (.ret ⟨rfl, h5, rfl, ⟨a2, b2⟩, a3, a4, a5⟩)
theorem prods_ok {s : List Int} {p : Int} (h : SrcOk s p) : Ok (keep_Src_Products s p) (fun r => r.1 = s ∧ SrcOk s r.2.1 ∧ GoodL r.2.2) := by
  unfold keep_Src_Products
  obtain ⟨r, p', e, a, b, h'⟩ := range_eq (lo := 1) (hi := 4) h (by omega) (by omega) (by omega)
  refine Ok.eq e ?_
  obtain ⟨n, rfl⟩ : ∃ n : Nat, r = (n : Int) := ⟨r.toNat, by omega⟩
  refine Ok.bind (Q := fun r => r.1 = s ∧ SrcOk s r.2.1 ∧ GoodL r.2.2) ?_ fun r hr => .ret hr
  refine Ok.loop (fun x : Int × List Int × Int × List Pro => ∃ k : Nat, x.1 = (k : Int) ∧ x.2.1 = s ∧ SrcOk s x.2.2.1 ∧ 1 ≤ x.2.2.2.length + k ∧ x.2.2.2.length + k ≤ 4 ∧ ∀ j, j < x.2.2.2.length → GoodP j (x.2.2.2.getD j P0)) (fun x => x.1.toNat)
    ⟨n, rfl, rfl, h', by simp; omega, by simp; omega, fun j hj => by simp at hj⟩ ?_
  rintro ⟨i, d3, d4, out⟩ ⟨k, g1, g2, g3, g4, g5, g6⟩
  simp only at g1 g2 g3 g4 g5 g6
  subst g1 g2
  unfold keep_Src_Products_L0
  refine Ok.bif (fun hc => ?_) fun hc => ?_
  · have hc := of_decide_eq_true hc
    refine Ok.bind (prod_ok out.length (by omega) g3) ?_
    rintro ⟨x, d5, d6⟩ ⟨q1, q2, q3⟩
    simp only at q1 q2 q3
    subst q1
    refine Ok.gd (fits_t (by (try dsimp only); omega)) (.ret ?_)
    refine ⟨⟨k - 1, by show wi64 ((k : Int) - 1) = _; rw [wi (by omega)]; omega, rfl, q2, by simp; omega, by simp; omega, fun j hj => ?_⟩, by show (wi64 ((k : Int) - 1)).toNat < _; rw [wi (by omega)]; simp only; omega⟩
    show GoodP j ((out ++ [x]).getD j P0)
    have hj : j < (out ++ [x]).length := hj
    rw [gD_app]
    by_cases hj' : j < out.length
    · rw [if_pos hj']; exact g6 j hj'
    · have : j = out.length := by simp at hj; omega
      subst this
      rw [if_neg (by omega), Nat.sub_self]; exact q3
  · have hc := of_decide_eq_false hc
    exact .ret ⟨rfl, g3, by simp only; omega, by simp only; omega, g6⟩
theorem goodP_valid {k : Nat} (hk : k < 4) {p : Pro} (h : GoodP k p) : validB p = true := by
  obtain ⟨x, d, e, c, f⟩ := p
  obtain ⟨h1, h2, h3, h4, h5⟩ := h
  simp only at h1 h2 h3 h4 h5
  subst h1
  have hn : nameB [112, UInt8.ofNat (97 + k)] = true := by
    match k, hk with
    | 0, _ => rfl
    | 1, _ => rfl
    | 2, _ => rfl
    | 3, _ => rfl
  unfold validB okB rgB
  simp only [hn, Bool.and_true]
  rw [dec_f (by omega), dec_f (by omega)]
  simp only [List.mem_cons, List.not_mem_nil, or_false] at h3 h4 h5
  rcases h3 with rfl | rfl | rfl | rfl <;> rcases h4 with rfl | rfl | rfl | rfl <;> rcases h5 with rfl | rfl | rfl | rfl | rfl <;> rfl
theorem text_ok {l : List Str} {s : List Int} {p : Int} (h : SrcOk s p) (h1 : 1 ≤ l.length) (h2 : l.length ≤ 100) : Ok (keep_Src_Text l s p) (fun r => r.1 ∈ l ∧ r.2.1 = s ∧ SrcOk s r.2.2) := by
  obtain ⟨r, p', e, r1, r2, hp⟩ := n_eq (n := (l.length : Int)) h (by omega) (by omega)
  unfold keep_Src_Text
  refine Ok.eq e ?_
  obtain ⟨k, rfl⟩ : ∃ k : Nat, r = (k : Int) := ⟨r.toNat, by omega⟩
  have hk : k < l.length := by omega
  refine Ok.gd (inB_t hk) (.ret ⟨?_, rfl, hp⟩)
  rw [Int.toNat_natCast]; exact gD_mem hk
theorem odd_ok (q : Pro) (hq : q.1.length ≤ 13) {s : List Int} {p : Int} (h : SrcOk s p) : Ok (keep_Src_Odd q s p) (fun r => r.1.1.length ≤ 13 ∧ r.2.1 = s ∧ SrcOk s r.2.2) := by
  unfold keep_Src_Odd
  obtain ⟨r, p', e, a, b, h'⟩ := n_eq (n := 5) h (by omega) (by omega)
  refine Ok.eq e ?_
  refine Ok.bind (Q := fun r : Str × Int × Int × Int × Int × List Int × Int => r.1.length ≤ 13 ∧ r.2.2.2.2.2.1 = s ∧ SrcOk s r.2.2.2.2.2.2) ?_ fun r hr => .ret hr
  refine Ok.bif (fun hc => ?_) fun hc => ?_
  · refine Ok.bind (text_ok h' (by simp) (by simp)) ?_
    rintro ⟨x, d5, d6⟩ ⟨q1, q2, q3⟩
    simp only at q1 q2 q3
    subst q2
    refine .ret ⟨?_, rfl, q3⟩
    have : ∀ y ∈ ([[], [97], [65], [55, 117, 112], [97, 98, 99, 100, 101, 102, 103, 104, 105, 106, 107, 108], [97, 98, 99, 100, 101, 102, 103, 104, 105, 106, 107, 108, 109], [112, 32, 97]] : List Str), y.length ≤ 13 := by decide
    exact this x q1
  · refine Ok.bind (Q := fun r : Int × Int × Int × Int × List Int × Int => r.2.2.2.2.1 = s ∧ SrcOk s r.2.2.2.2.2) ?_ fun r hr => .ret ⟨hq, hr⟩
    refine Ok.bif (fun hc => ?_) fun hc => ?_
    · obtain ⟨r3, p3, e3, a3, h3⟩ := pick_eq (l := [399, 400, 1200, 1201, (-9223372036854775808)]) h' (by simp) (by simp)
      exact Ok.eq e3 (.ret ⟨rfl, h3⟩)
    · refine Ok.bind (Q := fun r : Int × Int × Int × List Int × Int => r.2.2.2.1 = s ∧ SrcOk s r.2.2.2.2) ?_ fun r hr => .ret hr
      refine Ok.bif (fun hc => ?_) fun hc => ?_
      · obtain ⟨r3, p3, e3, a3, h3⟩ := pick_eq (l := [(-1), 0, 2000, 2001, 4611686018427387904]) h' (by simp) (by simp)
        exact Ok.eq e3 (.ret ⟨rfl, h3⟩)
      · refine Ok.bind (Q := fun r : Int × Int × List Int × Int => r.2.2.1 = s ∧ SrcOk s r.2.2.2) ?_ fun r hr => .ret hr
        refine Ok.bif (fun hc => ?_) fun hc => ?_
        · obtain ⟨r3, p3, e3, a3, h3⟩ := pick_eq (l := [(-1), 0, 5000, 5001]) h' (by simp) (by simp)
          exact Ok.eq e3 (.ret ⟨rfl, h3⟩)
        · obtain ⟨r3, p3, e3, a3, h3⟩ := pick_eq (l := [0, 1, 2000, 2001, (-5)]) h' (by simp) (by simp)
          exact Ok.eq e3 (.ret ⟨rfl, h3⟩)
def nmD (l : List Pro) (i k : Nat) : Bool := !decide ((l.getD i P0).1 = (l.getD k P0).1)
def difB (l : List Pro) (i : Nat) : Bool := (List.range i).all fun k => nmD l i k
theorem range_all (f : Nat → Bool) (i : Nat) : (List.range (i + 1)).all f = ((List.range i).all f && f i) := by rw [List.range_succ, List.all_append]; simp
theorem fnd_dif (l : List Pro) (i : Nat) (hi : i < l.length) : Nat.beq (fnd l (l.getD i P0).1) i = difB l i := by
  have hle := fnd_le l i hi
  rw [Bool.eq_iff_iff, Nat.beq_eq]
  unfold difB
  rw [all_range]
  constructor
  · intro he k hk
    have hk' : k < l.findIdx fun p : Pro => decide (p.1 = (l.getD i P0).1) := by unfold fnd at he; omega
    have := List.not_of_lt_findIdx hk'
    rw [← gD_eq (d := P0) (by omega)] at this
    have := of_decide_eq_false this
    unfold nmD
    rw [dec_f (fun e => this e.symm)]; rfl
  · intro hk
    rcases Nat.lt_or_ge (fnd l (l.getD i P0).1) i with h | h
    · exfalso
      have h1 := hk _ h
      have hl : fnd l (l.getD i P0).1 < l.length := by omega
      have h2 : decide ((l.getD (fnd l (l.getD i P0).1) P0).1 = (l.getD i P0).1) = true := by
        have := List.findIdx_getElem (p := fun p : Pro => decide (p.1 = (l.getD i P0).1)) (xs := l) (w := hl)
        rw [gD_eq hl]; exact this
      unfold nmD at h1
      rw [dec_t (of_decide_eq_true h2).symm] at h1
      cases h1
    · omega
theorem chk_facts {l : List Pro} (hl : l.length ≤ 16) : decide (chkB l = 0) = ((List.range l.length).all (fun i => validB (l.getD i P0)) && (List.range l.length).all (difB l)) ∧ decide (chkB l = 9) = !(List.range l.length).all (fun i => validB (l.getD i P0)) := by
  unfold chkB
  rw [show Nat.blt 16 l.length = false by rw [Bool.eq_false_iff, ne_eq, Nat.blt_eq]; omega, all_gD, cond_false]
  have he : (List.range l.length).all (fun i => Nat.beq (fnd l (l.getD i P0).1) i) = (List.range l.length).all (difB l) := by
    rw [Bool.eq_iff_iff, all_range, all_range]
    exact ⟨fun h i hi => by rw [← fnd_dif l i hi]; exact h i hi, fun h i hi => by rw [fnd_dif l i hi]; exact h i hi⟩
  rw [he]
  cases l.all validB <;> cases (List.range l.length).all (difB l) <;> exact ⟨rfl, rfl⟩
end Go.Proofs.YtihbfecdccamoaaGreatDoor
