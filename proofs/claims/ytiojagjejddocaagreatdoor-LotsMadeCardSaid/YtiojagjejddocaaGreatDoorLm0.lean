/- Lots: comparisons; walks along lists; names. No condition. -/
import Derived.Test.YtiojagjejddocaaGreatDoorQv
import Derived.Test.YtiojagjejddocaaGreatDoorSqZ
import Derived.Sort.AssemblyPlain
namespace Go.Proofs.YtiojagjejddocaaGreatDoor
open Go Go.Sq
set_option linter.unusedVariables false
theorem bl_cons (a b : UInt8) (x y : List UInt8) : Op.bytesLess (a :: x) (b :: y) = true ↔ a.toNat < b.toNat ∨ (a = b ∧ Op.bytesLess x y = true) := by
  rw [show Op.bytesLess (a :: x) (b :: y) = (decide (a < b) || (a == b && Op.bytesLess x y)) from rfl]
  simp only [Bool.or_eq_true, Bool.and_eq_true, decide_eq_true_eq, beq_iff_eq, UInt8.lt_iff_toNat_lt]
theorem bl_nil (x : List UInt8) : Op.bytesLess x [] = false := by cases x <;> rfl
theorem bl_irrefl : ∀ a : List UInt8, Op.bytesLess a a = false
  | [] => rfl
  | a :: x => by
    rw [← Bool.not_eq_true, bl_cons]
    rintro (h | ⟨_, h⟩)
    · omega
    · rw [bl_irrefl x] at h; cases h
theorem bl_trans : ∀ {a b c : List UInt8}, Op.bytesLess a b = true → Op.bytesLess b c = true → Op.bytesLess a c = true
  | _, [], _, h, _ => by rw [bl_nil] at h; cases h
  | _, _ :: _, [], _, h => by rw [bl_nil] at h; cases h
  | [], _ :: _, _ :: _, _, _ => rfl
  | a :: x, b :: y, c :: z, h, h' => by
    rw [bl_cons] at h h' ⊢
    rcases h with h | ⟨rfl, h⟩ <;> rcases h' with h' | ⟨rfl, h'⟩
    · left; omega
    · left; exact h
    · left; exact h'
    · right; exact ⟨rfl, bl_trans h h'⟩
theorem bl_tri : ∀ a b : List UInt8, Op.bytesLess a b = true ∨ a = b ∨ Op.bytesLess b a = true
  | [], [] => .inr (.inl rfl)
  | [], _ :: _ => .inl rfl
  | _ :: _, [] => .inr (.inr rfl)
  | a :: x, b :: y => by
    rw [bl_cons, bl_cons]
    rcases Nat.lt_trichotomy a.toNat b.toNat with h | h | h
    · exact .inl (.inl h)
    · have e := UInt8.toNat_inj.1 h
      subst e
      rcases bl_tri x y with h1 | h1 | h1
      · exact .inl (.inr ⟨rfl, h1⟩)
      · subst h1; exact .inr (.inl rfl)
      · exact .inr (.inr (.inr ⟨rfl, h1⟩))
    · exact .inr (.inr (.inl h))
structure Good {E : Type} (c : E → E → Int) : Prop where
  anti : ∀ x y, c x y < 0 ↔ 0 < c y x
  trans : ∀ x y z, c x y ≤ 0 → c y z ≤ 0 → c x z ≤ 0
theorem Good.zero {E : Type} {c : E → E → Int} (h : Good c) {x y : E} (e : c x y = 0) : c y x = 0 := by
  have h1 := h.anti x y
  have h2 := h.anti y x
  omega
theorem Good.zero2 {E : Type} {c : E → E → Int} (h : Good c) {x y z : E} (h1 : c x y ≤ 0) (h2 : c y z ≤ 0) (h3 : c x z = 0) : c x y = 0 ∧ c y z = 0 := by
  have e := h.zero h3
  have a1 := h.trans y z x h2 (by omega)
  have a2 := h.trans z x y (by omega) h1
  have b1 := h.anti x y
  have b2 := h.anti y z
  omega
def lex {E : Type} (c d : E → E → Int) (x y : E) : Int := if c x y ≠ 0 then c x y else d x y
theorem Good.lex {E : Type} {c d : E → E → Int} (h : Good c) (h' : Good d) : Good (lex c d) where
  anti x y := by
    unfold Proofs.YtiojagjejddocaaGreatDoor.lex
    have a1 := h.anti x y
    have a2 := h.anti y x
    have a3 := h'.anti x y
    by_cases e : c x y = 0
    · rw [if_neg (by omega), if_neg (by omega)]; exact a3
    · rw [if_pos e, if_pos (by omega)]; exact a1
  trans x y z := by
    unfold Proofs.YtiojagjejddocaaGreatDoor.lex
    intro h1 h2
    have k1 : c x y ≤ 0 := by
      by_cases e : c x y = 0
      · omega
      · rw [if_pos e] at h1; exact h1
    have k2 : c y z ≤ 0 := by
      by_cases e : c y z = 0
      · omega
      · rw [if_pos e] at h2; exact h2
    have k3 := h.trans x y z k1 k2
    by_cases e : c x z = 0
    · obtain ⟨e1, e2⟩ := h.zero2 k1 k2 e
      rw [if_neg (by omega)] at h1 h2 ⊢
      exact h'.trans x y z h1 h2
    · rw [if_pos e]; exact k3
theorem Good.swo {E : Type} {c : E → E → Int} (h : Good c) : Sort.SWO (fun x y => decide (c x y < 0)) where
  irrefl x := decide_eq_false (by have := h.anti x x; omega)
  trans x y z h1 h2 := by
    have h1 := of_decide_eq_true h1
    have h2 := of_decide_eq_true h2
    refine decide_eq_true ?_
    have h3 := h.trans x y z (by omega) (by omega)
    rcases Int.lt_or_eq_of_le h3 with h4 | h4
    · exact h4
    · have := h.zero2 (x := x) (y := y) (z := z) (by omega) (by omega) h4; omega
  ntrans x y z h1 h2 := by
    have h1 := of_decide_eq_false h1
    have h2 := of_decide_eq_false h2
    refine decide_eq_false ?_
    have a1 := h.anti x y
    have a2 := h.anti y z
    have a3 := h.anti x z
    have := h.trans z y x (by omega) (by omega)
    omega
def ci (a b : Int) : Int := if a < b then -1 else if b < a then 1 else 0
def cs (a b : List UInt8) : Int := if Op.bytesLess a b = true then -1 else if Op.bytesLess b a = true then 1 else 0
theorem good_ci {E : Type} (f : E → Int) : Good (fun x y => ci (f x) (f y)) where
  anti x y := by simp only [ci]; split <;> split <;> (try split) <;> omega
  trans x y z := by
    simp only [ci]
    intro h1 h2
    split at h1 <;> split at h2 <;> (try split at h1) <;> (try split at h2) <;> (split <;> (try split) <;> omega)
theorem cs_le {a b : List UInt8} : cs a b ≤ 0 ↔ (Op.bytesLess a b = true ∨ a = b) := by
  unfold cs
  rcases bl_tri a b with h | h | h
  · simp [h]
  · subst h; simp [bl_irrefl]
  · have h2 : Op.bytesLess a b = false := by
      cases h3 : Op.bytesLess a b with
      | false => rfl
      | true => have := bl_trans h3 h; rw [bl_irrefl] at this; cases this
    rw [h2, h]
    simp
    intro e; subst e; rw [bl_irrefl] at h; cases h
theorem cs_lt {a b : List UInt8} : cs a b < 0 ↔ Op.bytesLess a b = true := by
  unfold cs
  by_cases h : Op.bytesLess a b = true
  · simp [h]
  · rw [if_neg h]; split <;> simp [h]
theorem cs_gt {a b : List UInt8} : 0 < cs a b ↔ Op.bytesLess b a = true := by
  unfold cs
  by_cases h : Op.bytesLess a b = true
  · rw [if_pos h]
    have h2 : Op.bytesLess b a = false := by
      cases h3 : Op.bytesLess b a with
      | false => rfl
      | true => have := bl_trans h3 h; rw [bl_irrefl] at this; cases this
    simp [h2]
  · rw [if_neg h]; split
    · rename_i h2; simp [h2]
    · rename_i h2; simp [h2]
theorem cs_zero {a b : List UInt8} (h : cs a b = 0) : a = b := by
  have h1 : cs a b ≤ 0 := by omega
  rcases cs_le.1 h1 with h2 | h2
  · have := cs_lt.2 h2; omega
  · exact h2
theorem good_cs {E : Type} (f : E → List UInt8) : Good (fun x y => cs (f x) (f y)) where
  anti x y := cs_lt.trans cs_gt.symm
  trans x y z h1 h2 := by
    rcases cs_le.1 h1 with h1 | h1
    · rcases cs_le.1 h2 with h2 | h2
      · exact cs_le.2 (.inl (bl_trans h1 h2))
      · show cs (f x) (f z) ≤ 0
        rw [← h2]; exact cs_le.2 (.inl h1)
    · show cs (f x) (f z) ≤ 0
      rw [h1]; exact h2
theorem cmpI (a b : Int) : cmp_Compare_int a b = some (ci a b) := by
  unfold cmp_Compare_int cmp_isNaN_int ci
  simp only [decide_true, Bool.not_true, Option.bind_some, cond_false]
  by_cases h : a < b
  · rw [dec_t h, if_pos h]; rfl
  · rw [dec_f h, if_neg h]
    by_cases h2 : b < a
    · rw [dec_t h2, if_pos h2]; rfl
    · rw [dec_f h2, if_neg h2]; rfl
theorem cmpS (a b : List UInt8) : cmp_Compare_string a b = some (cs a b) := by
  unfold cmp_Compare_string cmp_isNaN_string cs
  simp only [decide_true, Bool.not_true, Option.bind_some, cond_false]
  rcases bl_tri a b with h | h | h
  · rw [h]; rfl
  · subst h; rw [bl_irrefl]; simp
  · have h2 : Op.bytesLess a b = false := by
      cases h3 : Op.bytesLess a b with
      | false => rfl
      | true => have := bl_trans h3 h; rw [bl_irrefl] at this; cases this
    have h4 : ¬ a = b := fun e => by subst e; rw [bl_irrefl] at h; cases h
    rw [h2, h, dec_f h4]; rfl
def orL : List Int → Int
  | [] => 0
  | x :: l => if x ≠ 0 then x else orL l
theorem or_ok (l : List Int) (hl : l.length ≤ 1000) : cmp_Or_int l = some (orL l) := by
  have key : Ok (cmp_Or_int l) fun r => r = orL l := by
    unfold cmp_Or_int
    refine Ok.bind (Q := fun e : Unit ⊕ Int => (match e with | .inl _ => 0 | .inr x => x) = orL l) ?_ fun e he => ?_
    · refine Ok.loop (fun v : Int => ∃ k : Nat, v = (k : Int) ∧ k ≤ l.length ∧ orL (l.drop k) = orL l) (fun v => l.length - v.toNat) ⟨0, rfl, by omega, rfl⟩ ?_
      rintro v ⟨k, rfl, hk, hp⟩
      unfold cmp_Or_int_L0
      refine Ok.bif (fun hc => ?_) fun hc => ?_
      · have hc := of_decide_eq_true hc
        have hk : k < l.length := by omega
        have hd : l.drop k = l.getD k 0 :: l.drop (k + 1) := by
          rw [List.getD_eq_getElem?_getD, List.getElem?_eq_getElem hk]; exact List.drop_eq_getElem_cons hk
        rw [hd] at hp
        refine Ok.gd (inB_t hk) ?_
        rw [Int.toNat_natCast]
        refine Ok.bif (fun hb => ?_) fun hb => ?_
        · have hb : ¬ l.getD k 0 = 0 := by simpa using hb
          refine .ret ?_
          rw [← hp]
          show _ = if l.getD k 0 ≠ 0 then l.getD k 0 else _
          rw [if_pos hb]
        · have hb : l.getD k 0 = 0 := by simpa using hb
          rw [show wi64 ((k : Int) + 1) = ((k + 1 : Nat) : Int) by rw [wi (by omega)]; rfl]
          refine .ret ⟨⟨k + 1, rfl, by omega, ?_⟩, by simp only [Int.toNat_natCast]; omega⟩
          rw [← hp]
          show _ = if l.getD k 0 ≠ 0 then l.getD k 0 else _
          rw [if_neg (fun hh => hh hb)]
      · have hc := of_decide_eq_false hc
        refine .ret ?_
        have : k = l.length := by omega
        rw [← hp, this, List.drop_length]; rfl
    · cases e with
      | inl u => exact .ret he
      | inr x => exact .ret he
  obtain ⟨r, h1, h2⟩ := key
  rw [h1, h2]
abbrev Nom := List UInt8 × List UInt8 × List UInt8 × List UInt8 × Int × Int
abbrev Made := Nom × (Int × List UInt8 × Int × Int) × Int
def ncmp : Nom → Nom → Int := lex (fun x y => ci x.2.2.2.2.1 y.2.2.2.2.1) (lex (fun x y => cs x.1 y.1) (lex (fun x y => cs x.2.1 y.2.1) (lex (fun x y => cs x.2.2.1 y.2.2.1) (fun x y => cs x.2.2.2.1 y.2.2.2.1))))
theorem ncmp_good : Good ncmp := (good_ci _).lex ((good_cs _).lex ((good_cs _).lex ((good_cs _).lex (good_cs _))))
def mcmp : Made → Made → Int := lex (fun x y => ci x.1.2.2.2.2.1 y.1.2.2.2.2.1) (lex (fun x y => ci x.2.2 y.2.2) (lex (fun x y => cs x.1.1 y.1.1) (lex (fun x y => cs x.1.2.2.1 y.1.2.2.1) (fun x y => cs x.1.2.2.2.1 y.1.2.2.2.1))))
theorem mcmp_good : Good mcmp := (good_ci _).lex ((good_ci _).lex ((good_cs _).lex ((good_cs _).lex (good_cs _))))
theorem or5 (a b c d e : Int) : orL [a, b, c, d, e] = if a ≠ 0 then a else if b ≠ 0 then b else if c ≠ 0 then c else if d ≠ 0 then d else e := by
  unfold orL orL orL orL orL orL
  by_cases h : e = 0
  · simp [h]
  · simp [h]
theorem ncmp_ok (x y : Nom) : nomination_compare x y = some (ncmp x y) := by
  unfold nomination_compare
  rw [cmpI, Option.bind_some, cmpS, Option.bind_some, cmpS, Option.bind_some, cmpS, Option.bind_some, cmpS, Option.bind_some, or_ok _ (by simp), or5]
  rfl
theorem mcmp_ok (x y : Made) : lots_Batches_1 x y = some (mcmp x y) := by
  unfold lots_Batches_1
  rw [cmpI, Option.bind_some, cmpI, Option.bind_some, cmpS, Option.bind_some, cmpS, Option.bind_some, cmpS, Option.bind_some, or_ok _ (by simp), or5]
  rfl
def nkey (x : Nom) : Nom := (x.1, (x.2.1, (x.2.2.1, (x.2.2.2.1, (x.2.2.2.2.1, 0)))))
theorem ncmp_zero {x y : Nom} (h : ncmp x y = 0) : nkey x = nkey y := by
  unfold ncmp lex at h
  simp only at h
  have hci : ∀ a b : Int, ci a b = 0 → a = b := fun a b h => by unfold ci at h; split at h <;> (try split at h) <;> omega
  split at h
  · omega
  · rename_i h1
    have h1 := hci x.2.2.2.2.1 y.2.2.2.2.1 (by omega)
    split at h
    · omega
    · rename_i h2
      have h2 := cs_zero (a := x.1) (b := y.1) (by omega)
      split at h
      · omega
      · rename_i h3
        have h3 := cs_zero (a := x.2.1) (b := y.2.1) (by omega)
        split at h
        · omega
        · rename_i h4
          have h4 := cs_zero (a := x.2.2.1) (b := y.2.2.1) (by omega)
          have h5 := cs_zero (a := x.2.2.2.1) (b := y.2.2.2.1) h
          unfold nkey
          rw [h1, h2, h3, h4, h5]
abbrev Str := List UInt8
theorem all_gD {A : Type} (l : List A) (d : A) (q : A → Bool) : (List.range l.length).all (fun i => q (l.getD i d)) = l.all q := by
  rw [Bool.eq_iff_iff, all_range, List.all_eq_true]
  constructor
  · intro h x hx
    obtain ⟨k, hk, rfl⟩ := mem_gD d hx
    exact h k hk
  · intro h i hi
    exact h _ (gD_mem hi)
theorem scan {A ε : Type} (l : List A) (d : A) {step : Int → Option (Int ⊕ ε)} (q : A → Bool) {fin bad : ε}
    (h1 : ∀ i, i < l.length → q (l.getD i d) = true → step (i : Int) = some (.inl ((i + 1 : Nat) : Int)))
    (h2 : ∀ i, i < l.length → q (l.getD i d) = false → step (i : Int) = some (.inr bad)) (h3 : step (l.length : Int) = some (.inr fin)) : iter step 0 = some (bif l.all q then fin else bad) := by
  have := iter_all (step := step) l.length (fun i => (i : Int)) (fun i => q (l.getD i d)) (fin := fin) (bad := bad) (fun i hi _ hq => h1 i hi hq) (fun i hi _ hq => h2 i hi hq) (fun _ => h3)
  rw [all_gD] at this
  exact this
theorem w1 {i n : Nat} (h : i < n) (hn : n ≤ 4611686018427387904) : wi64 ((i : Int) + 1) = ((i + 1 : Nat) : Int) := by rw [wi (by omega)]; omega
theorem inB0 {n : Nat} (h : 0 < n) : inB 0 n = true := inB_iff.2 ⟨by omega, by omega⟩
theorem iter_find {A ε : Type} (l : List A) (d : A) {step : Int → Option (Int ⊕ ε)} (q : A → Bool) {fin : ε} (hit : Nat → ε)
    (h1 : ∀ i, i < l.length → q (l.getD i d) = false → step (i : Int) = some (.inl ((i + 1 : Nat) : Int)))
    (h2 : ∀ i, i < l.length → q (l.getD i d) = true → step (i : Int) = some (.inr (hit i))) (h3 : step (l.length : Int) = some (.inr fin)) :
    iter step 0 = some (if l.findIdx q < l.length then hit (l.findIdx q) else fin) := by
  have hlt : ∀ i, i < l.findIdx q → i < l.length ∧ q (l.getD i d) = false := by
    intro i hi
    have hl : i < l.length := Nat.lt_of_lt_of_le hi List.findIdx_le_length
    refine ⟨hl, ?_⟩
    rw [gD_eq hl]
    exact List.not_of_lt_findIdx hi
  refine iter_for (l.findIdx q) (fun i => (i : Int)) (fun i hi => h1 i (hlt i hi).1 (hlt i hi).2) ?_
  by_cases hf : l.findIdx q < l.length
  · rw [if_pos hf]
    exact h2 _ hf (by rw [gD_eq hf]; exact List.findIdx_getElem (w := hf))
  · rw [if_neg hf]
    have : l.findIdx q = l.length := Nat.le_antisymm List.findIdx_le_length (Nat.le_of_not_lt hf)
    show step ((l.findIdx q : Nat) : Int) = _
    rw [this]; exact h3
theorem eqU (b c : UInt8) (n : Int) (h : (c.toNat : Int) = n) : decide ((Int.ofNat b.toNat) = n) = (b == c) := by
  rw [Bool.eq_iff_iff, decide_eq_true_iff, beq_iff_eq]
  simp only [Int.ofNat_eq_natCast]
  constructor
  · intro e; exact UInt8.toNat_inj.1 (by omega)
  · rintro rfl; exact h
def fch (b : UInt8) : Bool := Nat.ble 97 b.toNat && Nat.ble b.toNat 122
def nch (b : UInt8) : Bool := fch b || (Nat.ble 48 b.toNat && Nat.ble b.toNat 57) || b == 45
def nameB (s : Str) : Bool := Nat.ble 1 s.length && Nat.ble s.length 12 && fch (s.headD 0) && s.all nch
theorem place_eq (b : UInt8) : lines_place (Int.ofNat b.toNat) = some (bif fch b then 1 else bif nch b then 2 else 0) := by
  have h1 : decide (97 ≤ (Int.ofNat b.toNat)) = Nat.ble 97 b.toNat := by rw [Bool.eq_iff_iff, decide_eq_true_iff, Nat.ble_eq]; simp only [Int.ofNat_eq_natCast]; omega
  have h2 : decide ((Int.ofNat b.toNat) ≤ 122) = Nat.ble b.toNat 122 := by rw [Bool.eq_iff_iff, decide_eq_true_iff, Nat.ble_eq]; simp only [Int.ofNat_eq_natCast]; omega
  have h3 : decide (48 ≤ (Int.ofNat b.toNat)) = Nat.ble 48 b.toNat := by rw [Bool.eq_iff_iff, decide_eq_true_iff, Nat.ble_eq]; simp only [Int.ofNat_eq_natCast]; omega
  have h4 : decide ((Int.ofNat b.toNat) ≤ 57) = Nat.ble b.toNat 57 := by rw [Bool.eq_iff_iff, decide_eq_true_iff, Nat.ble_eq]; simp only [Int.ofNat_eq_natCast]; omega
  unfold lines_place nch fch
  rw [h1, h2, h3, h4, eqU _ 45 45 rfl]
  cases Nat.ble 97 b.toNat <;> cases Nat.ble b.toNat 122 <;> cases Nat.ble 48 b.toNat <;> cases Nat.ble b.toNat 57 <;> cases b == 45 <;> rfl
theorem nch_f {b : UInt8} (h : fch b = true) : nch b = true := by unfold nch; rw [h]; rfl
theorem lname_eq (s : Str) (hl : s.length ≤ 1000000) : lines_Name s = some (nameB s) := by
  have h : iter (fun x => lines_Name_L0 s x) 0 = some (bif s.all nch then .inl () else .inr false) := by
    refine scan s 0 nch (fun i hi hq => ?_) (fun i hi hq => ?_) ?_
    · unfold lines_Name_L0
      rw [dec_t (by omega), cond_true, gd_t (inB_t hi), Int.toNat_natCast, place_eq, Option.bind_some, hq, w1 hi (by omega)]
      cases fch (s.getD i 0) <;> rfl
    · unfold lines_Name_L0
      rw [dec_t (by omega), cond_true, gd_t (inB_t hi), Int.toNat_natCast, place_eq, Option.bind_some, hq]
      cases hf : fch (s.getD i 0) with
      | true => rw [nch_f hf] at hq; cases hq
      | false => rfl
    · unfold lines_Name_L0
      rw [dec_f (by omega)]; rfl
  unfold lines_Name nameB
  by_cases h1 : s.length < 1
  · rw [dec_t (show (s.length : Int) < 1 by omega), show Nat.ble 1 s.length = false by rw [Bool.eq_false_iff, ne_eq, Nat.ble_eq]; omega]; rfl
  · rw [dec_f (show ¬ (s.length : Int) < 1 by omega), cond_false, show Nat.ble 1 s.length = true by rw [Nat.ble_eq]; omega]
    by_cases h2 : 12 < s.length
    · rw [dec_t (show 12 < (s.length : Int) by omega), show Nat.ble s.length 12 = false by rw [Bool.eq_false_iff, ne_eq, Nat.ble_eq]; omega]; rfl
    · rw [dec_f (show ¬ 12 < (s.length : Int) by omega), cond_false, show Nat.ble s.length 12 = true by rw [Nat.ble_eq]; omega, gd_t (inB0 (by omega)), place_eq, Option.bind_some, h]
      have hh : s.getD 0 0 = s.headD 0 := by cases s <;> rfl
      rw [hh]
      cases fch (s.headD 0) with
      | false => cases nch (s.headD 0) <;> rfl
      | true => cases s.all nch <;> rfl
theorem rname_eq (s : Str) (hl : s.length ≤ 1000000) : ref03_Name s = some (nameB s) := by
  have k1 : ∀ b : UInt8, decide ((Int.ofNat b.toNat) < 97) = !Nat.ble 97 b.toNat := by
    intro b; rw [Bool.eq_iff_iff, decide_eq_true_iff, Bool.not_eq_true', Bool.eq_false_iff, ne_eq, Nat.ble_eq]; simp only [Int.ofNat_eq_natCast]; omega
  have k2 : ∀ b : UInt8, decide (122 < (Int.ofNat b.toNat)) = !Nat.ble b.toNat 122 := by
    intro b; rw [Bool.eq_iff_iff, decide_eq_true_iff, Bool.not_eq_true', Bool.eq_false_iff, ne_eq, Nat.ble_eq]; simp only [Int.ofNat_eq_natCast]; omega
  have k3 : ∀ b : UInt8, decide ((Int.ofNat b.toNat) < 48) = !Nat.ble 48 b.toNat := by
    intro b; rw [Bool.eq_iff_iff, decide_eq_true_iff, Bool.not_eq_true', Bool.eq_false_iff, ne_eq, Nat.ble_eq]; simp only [Int.ofNat_eq_natCast]; omega
  have k4 : ∀ b : UInt8, decide (57 < (Int.ofNat b.toNat)) = !Nat.ble b.toNat 57 := by
    intro b; rw [Bool.eq_iff_iff, decide_eq_true_iff, Bool.not_eq_true', Bool.eq_false_iff, ne_eq, Nat.ble_eq]; simp only [Int.ofNat_eq_natCast]; omega
  have step : ∀ i, i < s.length → ref03_Name_L0 s (i : Int) = some (bif nch (s.getD i 0) then .inl ((i + 1 : Nat) : Int) else .inr (.inr false)) := by
    intro i hi
    unfold ref03_Name_L0
    simp only [gd_t (inB_t hi), Int.toNat_natCast]
    rw [dec_t (show (i : Int) < (s.length : Int) by omega), cond_true, k1, k2, k3, k4, eqU _ 45 45 rfl, w1 hi (by omega)]
    unfold nch fch
    cases Nat.ble 97 (s.getD i 0).toNat <;> cases Nat.ble (s.getD i 0).toNat 122 <;> cases Nat.ble 48 (s.getD i 0).toNat <;> cases Nat.ble (s.getD i 0).toNat 57 <;> cases s.getD i 0 == 45 <;> rfl
  have h : iter (fun x => ref03_Name_L0 s x) 0 = some (bif s.all nch then .inl () else .inr false) := by
    refine scan s 0 nch (fun i hi hq => ?_) (fun i hi hq => ?_) ?_
    · rw [step i hi, hq]; rfl
    · rw [step i hi, hq]; rfl
    · unfold ref03_Name_L0
      rw [dec_f (by omega)]; rfl
  unfold ref03_Name nameB
  by_cases h1 : s.length < 1
  · rw [dec_t (show (s.length : Int) < 1 by omega), show Nat.ble 1 s.length = false by rw [Bool.eq_false_iff, ne_eq, Nat.ble_eq]; omega]; rfl
  · rw [dec_f (show ¬ (s.length : Int) < 1 by omega), cond_false, show Nat.ble 1 s.length = true by rw [Nat.ble_eq]; omega]
    by_cases h2 : 12 < s.length
    · rw [dec_t (show 12 < (s.length : Int) by omega), show Nat.ble s.length 12 = false by rw [Bool.eq_false_iff, ne_eq, Nat.ble_eq]; omega]; rfl
    · rw [dec_f (show ¬ 12 < (s.length : Int) by omega), cond_false, show Nat.ble s.length 12 = true by rw [Nat.ble_eq]; omega, gd_t (inB0 (by omega)), gd_t (inB0 (by omega)), k1, k2, h]
      have hh : s.getD 0 0 = s.headD 0 := by cases s <;> rfl
      rw [hh]
      unfold fch
      cases Nat.ble 97 (s.headD 0).toNat <;> cases Nat.ble (s.headD 0).toNat 122 <;> cases s.all nch <;> rfl
theorem lname_any (s : Str) : lines_Name s = some (nameB s) := by
  by_cases hl : s.length ≤ 1000000
  · exact lname_eq s hl
  · unfold lines_Name nameB
    rw [dec_f (show ¬ (s.length : Int) < 1 by omega), cond_false, dec_t (show 12 < (s.length : Int) by omega), show Nat.ble s.length 12 = false by rw [Bool.eq_false_iff, ne_eq, Nat.ble_eq]; omega]
    cases Nat.ble 1 s.length <;> rfl
theorem rname_any (s : Str) : ref03_Name s = some (nameB s) := by
  by_cases hl : s.length ≤ 1000000
  · exact rname_eq s hl
  · unfold ref03_Name nameB
    rw [dec_f (show ¬ (s.length : Int) < 1 by omega), cond_false, dec_t (show 12 < (s.length : Int) by omega), show Nat.ble s.length 12 = false by rw [Bool.eq_false_iff, ne_eq, Nat.ble_eq]; omega]
    cases Nat.ble 1 s.length <;> rfl
end Go.Proofs.YtiojagjejddocaaGreatDoor
