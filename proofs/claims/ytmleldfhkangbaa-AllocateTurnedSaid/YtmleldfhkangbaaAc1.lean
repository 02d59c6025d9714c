/- Accounts: names, their order; what is valid. No condition. -/
import Derived.Test.YtmleldfhkangbaaAlx
import Derived.Test.YtmleldfhkangbaaLe
namespace Go.Proofs.Ytmleldfhkangbaa
open Go Go.Sq

abbrev Acc := List UInt8 × Int × Int × Int × Int
abbrev Ent := List UInt8 × Int × Int
abbrev d0 : Acc := ([], (0, (0, (0, 0))))
abbrev e0 : Ent := ([], (0, 0))

/-! ### The order of texts -/
theorem bl_cons (a b : UInt8) (x y : List UInt8) : Op.bytesLess (a :: x) (b :: y) = true ↔ a.toNat < b.toNat ∨ (a = b ∧ Op.bytesLess x y = true) := by
  rw [show Op.bytesLess (a :: x) (b :: y) = (decide (a < b) || (a == b && Op.bytesLess x y)) from rfl]
  simp only [Bool.or_eq_true, Bool.and_eq_true, decide_eq_true_eq, beq_iff_eq, UInt8.lt_iff_toNat_lt]
theorem bl_nil (x : List UInt8) : Op.bytesLess x [] = false := by cases x <;> rfl
theorem bl_irrefl : ∀ a : List UInt8, Op.bytesLess a a = false
  | [] => rfl
  | a :: x => by
    rw [← Bool.not_eq_true, bl_cons]
    rintro (h | ⟨_, h⟩)
    · omega
    · rw [bl_irrefl x] at h; cases h
theorem bl_trans : ∀ {a b c : List UInt8}, Op.bytesLess a b = true → Op.bytesLess b c = true → Op.bytesLess a c = true
  | _, [], _, h, _ => by rw [bl_nil] at h; cases h
  | _, _ :: _, [], _, h => by rw [bl_nil] at h; cases h
  | [], _ :: _, _ :: _, _, _ => rfl
  | a :: x, b :: y, c :: z, h, h' => by
    rw [bl_cons] at h h' ⊢
    rcases h with h | ⟨rfl, h⟩ <;> rcases h' with h' | ⟨rfl, h'⟩
    · left; omega
    · left; exact h
    · left; exact h'
    · right; exact ⟨rfl, bl_trans h h'⟩
theorem bl_tri : ∀ a b : List UInt8, Op.bytesLess a b = true ∨ a = b ∨ Op.bytesLess b a = true
  | [], [] => .inr (.inl rfl)
  | [], _ :: _ => .inl rfl
  | _ :: _, [] => .inr (.inr rfl)
  | a :: x, b :: y => by
    rw [bl_cons, bl_cons]
    rcases Nat.lt_trichotomy a.toNat b.toNat with h | h | h
    · exact .inl (.inl h)
    · have e := UInt8.toNat_inj.1 h
      subst e
      rcases bl_tri x y with h1 | h1 | h1
      · exact .inl (.inr ⟨rfl, h1⟩)
      · subst h1; exact .inr (.inl rfl)
      · exact .inr (.inr (.inr ⟨rfl, h1⟩))
    · exact .inr (.inr (.inl h))
theorem bl_asym {a b : List UInt8} (h : Op.bytesLess a b = true) : Op.bytesLess b a = false := by
  rw [← Bool.not_eq_true]
  intro h'
  have := bl_trans h h'
  rw [bl_irrefl] at this; cases this
theorem bl_ne {a b : List UInt8} (h : Op.bytesLess a b = true) : a ≠ b := fun e => by
  subst e; rw [bl_irrefl] at h; cases h
theorem cmp_spec : ∀ a b : List UInt8, (Lib.compareBytes a b < 0 ↔ Op.bytesLess a b = true) ∧ (Lib.compareBytes a b = 0 ↔ a = b)
  | [], [] => by simp [Lib.compareBytes, bl_nil]
  | [], _ :: _ => by simp [Lib.compareBytes]; rfl
  | _ :: _, [] => by simp [Lib.compareBytes, bl_nil]
  | a :: x, b :: y => by
    have ih := cmp_spec x y
    unfold Lib.compareBytes
    rw [bl_cons]
    simp only [UInt8.lt_iff_toNat_lt, List.cons.injEq]
    rcases Nat.lt_trichotomy a.toNat b.toNat with h | h | h
    · have hne : a ≠ b := fun e => by subst e; omega
      simp [h, hne]
    · have e := UInt8.toNat_inj.1 h
      subst e
      simp only [Nat.lt_irrefl, if_false, false_or, true_and]
      exact ih
    · have hne : a ≠ b := fun e => by subst e; omega
      rw [if_neg (by omega), if_pos h]
      constructor
      · constructor
        · intro h; omega
        · rintro (h' | ⟨h', _⟩)
          · omega
          · exact absurd h' hne
      · constructor
        · intro h; omega
        · rintro ⟨h', _⟩; exact absurd h' hne

/-! ### Names -/
/-- Where a byte may stand: 1, first; 2, later; 0, nowhere. -/
def placeP (c : Int) : Int := if 97 ≤ c ∧ c ≤ 122 then 1 else if (48 ≤ c ∧ c ≤ 57) ∨ c = 45 then 2 else 0
theorem place_eq (c : Int) : lines_place c = some (placeP c) := by
  unfold lines_place placeP
  by_cases h1 : 97 ≤ c
  · by_cases h2 : c ≤ 122
    · simp [h1, h2]
    · simp [h1, h2, show ¬ c ≤ 57 by omega, show ¬ c = 45 by omega, show 48 ≤ c by omega]
  · by_cases h3 : 48 ≤ c
    · by_cases h4 : c ≤ 57
      · simp [h1, h3, h4]
      · simp [h1, h3, h4, show ¬ c = 45 by omega]
    · by_cases h5 : c = 45
      · simp [h5]
      · simp [h1, h3, h5]
def byteAt (s : List UInt8) (i : Nat) : Int := Int.ofNat (s.getD i 0).toNat
theorem byteAt_bd (s : List UInt8) (i : Nat) : 0 ≤ byteAt s i ∧ byteAt s i ≤ 255 := by
  unfold byteAt
  have := (s.getD i 0).toNat_lt
  constructor
  · exact Int.natCast_nonneg _
  · show ((s.getD i 0).toNat : Int) ≤ 255
    omega
def nameP (s : List UInt8) : Bool := decide (1 ≤ s.length) && (decide (s.length ≤ 12) && (decide (placeP (byteAt s 0) = 1) && (List.range s.length).all fun i => decide (placeP (byteAt s i) ≠ 0)))
theorem name_eq (s : List UInt8) : lines_Name s = some (nameP s) := by
  unfold lines_Name nameP
  by_cases h1 : s.length < 1
  · rw [dec_t (show (s.length : Int) < 1 by omega), dec_f (show ¬ 1 ≤ s.length by omega)]; rfl
  rw [dec_f (show ¬ (s.length : Int) < 1 by omega), dec_t (show 1 ≤ s.length by omega)]
  by_cases h2 : 12 < s.length
  · rw [dec_t (show 12 < (s.length : Int) by omega), dec_f (show ¬ s.length ≤ 12 by omega)]; rfl
  rw [dec_f (show ¬ 12 < (s.length : Int) by omega), dec_t (show s.length ≤ 12 by omega), gd_t (show inB 0 s.length = true from inB_t (i := 0) (by omega)), place_eq]
  simp only [cond_false, Option.bind_some, Bool.true_and]
  show (bif !decide (placeP (byteAt s 0) = 1) then some false else _) = _
  by_cases h3 : placeP (byteAt s 0) = 1
  · rw [dec_t h3]
    have := iter_all (step := fun x => lines_Name_L0 s x) s.length (fun i => (i : Int)) (fun i => decide (placeP (byteAt s i) ≠ 0)) (fin := .inl ()) (bad := .inr false) (fun i hi _ hp => by
        unfold lines_Name_L0
        simp only [dec_t (show (i : Int) < (s.length : Int) by omega), cond_true, gd_t (inB_t hi), Int.toNat_natCast, place_eq, Option.bind_some]
        show (bif decide (placeP (byteAt s i) = 0) then _ else _) = _
        rw [dec_f (of_decide_eq_true hp), wi (by omega)]; rfl) (fun i hi _ hp => by
        unfold lines_Name_L0
        simp only [dec_t (show (i : Int) < (s.length : Int) by omega), cond_true, gd_t (inB_t hi), Int.toNat_natCast, place_eq, Option.bind_some]
        show (bif decide (placeP (byteAt s i) = 0) then _ else _) = _
        rw [dec_t (by simpa using hp)]; rfl) (fun _ => by
        unfold lines_Name_L0
        simp only [dec_f (show ¬ (s.length : Int) < (s.length : Int) by omega), cond_false])
    simp only [Bool.not_true, cond_false, Bool.true_and]
    rw [show (0 : Int) = ((0 : Nat) : Int) from rfl, this]
    cases (List.range s.length).all fun i => decide (placeP (byteAt s i) ≠ 0) <;> rfl
  · rw [dec_f h3]; rfl
theorem rname_eq (s : List UInt8) : ref03_Name s = some (nameP s) := by
  unfold ref03_Name nameP
  by_cases h1 : s.length < 1
  · rw [dec_t (show (s.length : Int) < 1 by omega), dec_f (show ¬ 1 ≤ s.length by omega)]; rfl
  rw [dec_f (show ¬ (s.length : Int) < 1 by omega), dec_t (show 1 ≤ s.length by omega)]
  by_cases h2 : 12 < s.length
  · rw [dec_t (show 12 < (s.length : Int) by omega), dec_f (show ¬ s.length ≤ 12 by omega)]; rfl
  rw [dec_f (show ¬ 12 < (s.length : Int) by omega), dec_t (show s.length ≤ 12 by omega), gd_t (show inB 0 s.length = true from inB_t (i := 0) (by omega)), gd_t (show inB 0 s.length = true from inB_t (i := 0) (by omega))]
  have e0 : (bif decide ((Int.ofNat (s.getD 0 0).toNat) < 97) then some true else some (decide (122 < (Int.ofNat (s.getD 0 0).toNat)))) = some (!decide (placeP (byteAt s 0) = 1)) := by
    show (bif decide (byteAt s 0 < 97) then some true else some (decide (122 < byteAt s 0))) = _
    generalize byteAt s 0 = c
    unfold placeP
    by_cases a1 : c < 97
    · rw [dec_t a1, if_neg (by omega)]
      split <;> rfl
    · rw [dec_f a1]
      by_cases a2 : 122 < c
      · rw [dec_t a2, if_neg (by omega)]
        split <;> rfl
      · rw [dec_f a2, if_pos (by omega)]; rfl
  rw [e0]
  simp only [cond_false, Option.bind_some, Bool.true_and]
  by_cases h3 : placeP (byteAt s 0) = 1
  · rw [dec_t h3]
    have step : ∀ i : Nat, i < s.length → ref03_Name_L0 s (i : Int) = bif decide (placeP (byteAt s i) ≠ 0) then some (.inl ((i + 1 : Nat) : Int)) else some (.inr (.inr false)) := by
      intro i hi
      have hb := byteAt_bd s i
      unfold ref03_Name_L0
      simp only [dec_t (show (i : Int) < (s.length : Int) by omega), cond_true, gd_t (inB_t hi), Int.toNat_natCast]
      simp only [show (Int.ofNat (s.getD i 0).toNat) = byteAt s i from rfl]
      generalize byteAt s i = c at hb
      unfold placeP
      rw [show wi64 ((i : Int) + 1) = ((i + 1 : Nat) : Int) by rw [wi (by omega)]; rfl]
      by_cases a1 : c < 97
      · by_cases a3 : c < 48
        · by_cases a5 : c = 45
          · simp [a5]
          · simp [a1, a3, a5, show ¬ 97 ≤ c by omega, show ¬ 48 ≤ c by omega]
        · by_cases a4 : 57 < c
          · simp [a1, a3, a4, show ¬ 97 ≤ c by omega, show ¬ c ≤ 57 by omega, show ¬ c = 45 by omega]
          · simp [a1, a3, a4, show ¬ 97 ≤ c by omega, show 48 ≤ c by omega, show c ≤ 57 by omega]
      · by_cases a2 : 122 < c
        · simp [a1, a2, show ¬ c ≤ 122 by omega, show ¬ c < 48 by omega, show 57 < c by omega, show ¬ c = 45 by omega, show ¬ c ≤ 57 by omega]
        · simp [a1, a2, show 97 ≤ c by omega, show c ≤ 122 by omega]
    have := iter_all (step := fun x => ref03_Name_L0 s x) s.length (fun i => (i : Int)) (fun i => decide (placeP (byteAt s i) ≠ 0)) (fin := .inl ()) (bad := .inr false) (fun i hi _ hp => by
        rw [step i hi, hp]; rfl) (fun i hi _ hp => by
        rw [step i hi, hp]; rfl) (fun _ => by
        unfold ref03_Name_L0
        simp only [dec_f (show ¬ (s.length : Int) < (s.length : Int) by omega), cond_false])
    simp only [Bool.not_true, cond_false, Bool.true_and]
    rw [show (0 : Int) = ((0 : Nat) : Int) from rfl, this]
    cases (List.range s.length).all fun i => decide (placeP (byteAt s i) ≠ 0) <;> rfl
  · rw [dec_f h3]; rfl

/-! ### What is valid -/
def volP (n : Int) : Bool := decide (0 ≤ n ∧ n ≤ 1099511627776)
def sgnP (n : Int) : Bool := decide (-1099511627776 ≤ n ∧ n ≤ 1099511627776)
theorem vol_eq (n : Int) : allocate_Volume n = some (volP n) := by
  unfold allocate_Volume volP
  by_cases h : 0 ≤ n <;> simp [h]
theorem sgn_eq (n : Int) : allocate_Signed n = some (sgnP n) := signed_eq n
def accP (a : Acc) : Bool := volP a.2.1 && (volP a.2.2.1 && (volP a.2.2.2.1 && sgnP a.2.2.2.2))
theorem acc_eq (a : Acc) : account_valid a = some (accP a) := by
  unfold account_valid accP
  rw [vol_eq, vol_eq, vol_eq, sgn_eq]
  cases volP a.2.1 <;> cases volP a.2.2.1 <;> cases volP a.2.2.2.1 <;> rfl
theorem right_eq (a : Acc) : ref39_right a = some (accP a) := by
  unfold ref39_right accP volP sgnP
  by_cases h1 : 0 ≤ a.2.1
  · by_cases h2 : a.2.1 ≤ 1099511627776
    · by_cases h3 : 0 ≤ a.2.2.1
      · by_cases h4 : a.2.2.1 ≤ 1099511627776
        · by_cases h5 : 0 ≤ a.2.2.2.1
          · by_cases h6 : a.2.2.2.1 ≤ 1099511627776
            · by_cases h7 : -1099511627776 ≤ a.2.2.2.2 <;> simp [h1, h2, h3, h4, h5, h6, h7]
            · simp [h1, h2, h3, h4, h5, h6]
          · simp [h1, h2, h3, h4, h5]
        · simp [h1, h2, h3, h4]
      · simp [h1, h2, h3]
    · simp [h1, h2]
  · simp [h1]
def entP (e : Ent) : Bool := (decide (e.2.1 = 1 ∨ e.2.1 = 2 ∨ e.2.1 = 3) && volP e.2.2 || decide (e.2.1 = 4) && sgnP e.2.2) && nameP e.1
theorem ent_eq (e : Ent) : allocate_Entry e = some (entP e) := by
  unfold allocate_Entry entP
  rw [vol_eq, sgn_eq, name_eq]
  by_cases h1 : e.2.1 = 1
  · simp only [h1]; cases volP e.2.2 <;> simp
  · by_cases h2 : e.2.1 = 2
    · simp only [h2]; cases volP e.2.2 <;> simp
    · by_cases h3 : e.2.1 = 3
      · simp only [h3]; cases volP e.2.2 <;> simp
      · by_cases h4 : e.2.1 = 4
        · simp only [h4]; cases sgnP e.2.2 <;> simp
        · simp [h1, h2, h3, h4]
theorem rright_eq (e : Ent) : ref38_Right e = some (entP e) := by
  unfold ref38_Right entP volP sgnP
  rw [rname_eq]
  cases nameP e.1
  · simp
  · by_cases h1 : e.2.1 = 1
    · simp only [h1]
      by_cases a1 : 0 ≤ e.2.2 <;> simp [a1]
    · by_cases h2 : e.2.1 = 2
      · simp only [h2]
        by_cases a1 : 0 ≤ e.2.2 <;> simp [a1]
      · by_cases h3 : e.2.1 = 3
        · simp only [h3]
          by_cases a1 : 0 ≤ e.2.2 <;> simp [a1]
        · by_cases h4 : e.2.1 = 4
          · simp only [h4]
            by_cases a1 : -1099511627776 ≤ e.2.2 <;> simp [a1]
          · simp [h1, h2, h3, h4]

def okI (l : List Acc) (i : Nat) : Bool := accP (l.getD i d0) && (nameP (l.getD i d0).1 && (decide (i = 0) || Op.bytesLess (l.getD (i - 1) d0).1 (l.getD i d0).1))
def validB (l : List Acc) : Bool := decide (l.length ≤ 64) && (List.range l.length).all (okI l)

theorem valid_eq {l : List Acc} (hl : l.length ≤ 1000000) : account_Valid l = some (validB l) := by
  have step : ∀ i : Nat, i < l.length → account_Valid_L0 l (i : Int) = bif okI l i then some (.inl ((i + 1 : Nat) : Int)) else some (.inr (.inr false)) := by
    intro i hi
    unfold account_Valid_L0 okI
    simp only [dec_t (show (i : Int) < (l.length : Int) by omega), cond_true, gd_t (inB_t hi), Int.toNat_natCast]
    rw [show account_valid ((l.getD i d0).1, (((l.getD i d0).2).1, ((((l.getD i d0).2).2).1, (((((l.getD i d0).2).2).2).1, ((((l.getD i d0).2).2).2).2)))) = some (accP (l.getD i d0)) from acc_eq _, name_eq,
      show wi64 ((i : Int) + 1) = ((i + 1 : Nat) : Int) by rw [wi (by omega)]; rfl]
    cases h1 : accP (l.getD i d0)
    · rfl
    · cases h2 : nameP (l.getD i d0).1
      · rfl
      · by_cases h0 : i = 0
        · subst h0; rfl
        · have e1 : wi64 ((i : Int) - 1) = ((i - 1 : Nat) : Int) := by rw [wi (by omega)]; omega
          rw [dec_t (show (0 : Int) < (i : Int) by omega), e1, gd_t (inB_t (show i - 1 < l.length by omega)), Int.toNat_natCast, dec_f h0]
          simp only [Option.bind_some, Bool.not_true, cond_false, cond_true, Bool.true_and, Bool.false_or]
          rcases bl_tri (l.getD (i - 1) d0).1 (l.getD i d0).1 with h | h | h
          · rw [h, bl_asym h, dec_f (fun e => bl_ne h e.symm)]; rfl
          · rw [h, bl_irrefl, dec_t rfl]; rfl
          · rw [h, bl_asym h]; rfl
  have := iter_all (step := fun x => account_Valid_L0 l x) l.length (fun i => (i : Int)) (okI l) (fin := .inl ()) (bad := .inr false) (fun i hi _ hp => by
      rw [step i hi, hp]; rfl) (fun i hi _ hp => by
      rw [step i hi, hp]; rfl) (fun _ => by
      unfold account_Valid_L0
      simp only [dec_f (show ¬ (l.length : Int) < (l.length : Int) by omega), cond_false])
  unfold account_Valid validB
  rw [show (0 : Int) = ((0 : Nat) : Int) from rfl, this]
  cases (List.range l.length).all (okI l)
  · simp
  · by_cases h : l.length ≤ 64
    · rw [dec_t h, show (bif true then (Sum.inl () : Unit ⊕ Bool) else .inr false) = .inl () from rfl]
      simp only [Option.bind_some, Sum.elim_inl, dec_t (show (l.length : Int) ≤ 64 by omega)]; rfl
    · rw [dec_f h, show (bif true then (Sum.inl () : Unit ⊕ Bool) else .inr false) = .inl () from rfl]
      simp only [Option.bind_some, Sum.elim_inl, dec_f (show ¬ (l.length : Int) ≤ 64 by omega)]; rfl
theorem rvalid_eq {l : List Acc} (hl : l.length ≤ 1000000) : ref39_Valid l = some (validB l) := by
  unfold ref39_Valid validB
  by_cases h64 : l.length ≤ 64
  · rw [dec_f (show ¬ (64 : Int) < (l.length : Int) by omega), dec_t h64]
    have step : ∀ i : Nat, i < l.length → ref39_Valid_L0 l (i : Int) = bif okI l i then some (.inl ((i + 1 : Nat) : Int)) else some (.inr (.inr false)) := by
      intro i hi
      unfold ref39_Valid_L0 okI
      simp only [dec_t (show (i : Int) < (l.length : Int) by omega), cond_true, gd_t (inB_t hi), Int.toNat_natCast]
      rw [show ref39_right (l.getD i d0) = some (accP (l.getD i d0)) from right_eq _, rname_eq,
        show wi64 ((i : Int) + 1) = ((i + 1 : Nat) : Int) by rw [wi (by omega)]; rfl]
      cases h2 : nameP (l.getD i d0).1
      · cases accP (l.getD i d0) <;> rfl
      · cases h1 : accP (l.getD i d0)
        · rfl
        · by_cases h0 : i = 0
          · subst h0; rfl
          · have e1 : wi64 ((i : Int) - 1) = ((i - 1 : Nat) : Int) := by rw [wi (by omega)]; omega
            rw [dec_t (show (0 : Int) < (i : Int) by omega), e1, gd_t (inB_t (show i - 1 < l.length by omega)), Int.toNat_natCast, dec_f h0]
            cases Op.bytesLess (l.getD (i - 1) d0).1 (l.getD i d0).1 <;> rfl
    have := iter_all (step := fun x => ref39_Valid_L0 l x) l.length (fun i => (i : Int)) (okI l) (fin := .inl ()) (bad := .inr false) (fun i hi _ hp => by
        rw [step i hi, hp]; rfl) (fun i hi _ hp => by
        rw [step i hi, hp]; rfl) (fun _ => by
        unfold ref39_Valid_L0
        simp only [dec_f (show ¬ (l.length : Int) < (l.length : Int) by omega), cond_false])
    rw [show (0 : Int) = ((0 : Nat) : Int) from rfl, this]
    cases (List.range l.length).all (okI l) <;> rfl
  · rw [dec_t (show (64 : Int) < (l.length : Int) by omega), dec_f h64]; rfl

/-- What valid accounts are. -/
structure ValidP (l : List Acc) : Prop where
  n : l.length ≤ 64
  acc : ∀ a ∈ l, accP a = true
  nm : ∀ a ∈ l, nameP a.1 = true
  lt : ∀ i k, i < k → k < l.length → Op.bytesLess (l.getD i d0).1 (l.getD k d0).1 = true
theorem validB_iff {l : List Acc} : validB l = true ↔ ValidP l := by
  unfold validB
  rw [Bool.and_eq_true, decide_eq_true_eq, all_range]
  constructor
  · rintro ⟨h1, h2⟩
    have h3 : ∀ i, i < l.length → accP (l.getD i d0) = true ∧ nameP (l.getD i d0).1 = true ∧ (i ≠ 0 → Op.bytesLess (l.getD (i - 1) d0).1 (l.getD i d0).1 = true) := fun i hi => by
      have := h2 i hi
      simp only [okI, Bool.and_eq_true, Bool.or_eq_true, decide_eq_true_eq] at this
      exact ⟨this.1, this.2.1, fun h => this.2.2.resolve_left h⟩
    refine ⟨h1, fun a ha => ?_, fun a ha => ?_, fun i k hik hk => ?_⟩
    · obtain ⟨k, hk, rfl⟩ := mem_gD d0 ha
      exact (h3 k hk).1
    · obtain ⟨k, hk, rfl⟩ := mem_gD d0 ha
      exact (h3 k hk).2.1
    · induction k with
      | zero => omega
      | succ k ih =>
        have hs := (h3 (k + 1) hk).2.2 (by omega)
        rw [Nat.add_sub_cancel] at hs
        by_cases e : i = k
        · subst e; exact hs
        · exact bl_trans (ih (by omega) (by omega)) hs
  · intro h
    refine ⟨h.n, fun i hi => ?_⟩
    simp only [okI, Bool.and_eq_true, Bool.or_eq_true, decide_eq_true_eq]
    refine ⟨h.acc _ (gD_mem hi), h.nm _ (gD_mem hi), ?_⟩
    by_cases h0 : i = 0
    · exact .inl h0
    · exact .inr (h.lt _ _ (by omega) hi)
end Go.Proofs.Ytmleldfhkangbaa
