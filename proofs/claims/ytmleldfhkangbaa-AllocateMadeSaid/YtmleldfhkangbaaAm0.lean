/- Names, entries, and where they come from. No condition. -/
import Derived.Test.YtmleldfhkangbaaAlx
import Derived.Test.YtmleldfhkangbaaLe
import Derived.Test.YtmleldfhkangbaaSrc
namespace Go.Proofs.Ytmleldfhkangbaa
open Go Go.Sq

abbrev Ent := List UInt8 × Int × Int
abbrev e0 : Ent := ([], (0, 0))

/-! ### The order of texts -/
theorem bl_cons (a b : UInt8) (x y : List UInt8) : Op.bytesLess (a :: x) (b :: y) = true ↔ a.toNat < b.toNat ∨ (a = b ∧ Op.bytesLess x y = true) := by
  rw [show Op.bytesLess (a :: x) (b :: y) = (decide (a < b) || (a == b && Op.bytesLess x y)) from rfl]
  simp only [Bool.or_eq_true, Bool.and_eq_true, decide_eq_true_eq, beq_iff_eq, UInt8.lt_iff_toNat_lt]
theorem bl_nil (x : List UInt8) : Op.bytesLess x [] = false := by cases x <;> rfl
theorem bl_irrefl : ∀ a : List UInt8, Op.bytesLess a a = false
  | [] => rfl
  | a :: x => by
    rw [← Bool.not_eq_true, bl_cons]
    rintro (h | ⟨_, h⟩)
    · omega
    · rw [bl_irrefl x] at h; cases h
theorem bl_trans : ∀ {a b c : List UInt8}, Op.bytesLess a b = true → Op.bytesLess b c = true → Op.bytesLess a c = true
  | _, [], _, h, _ => by rw [bl_nil] at h; cases h
  | _, _ :: _, [], _, h => by rw [bl_nil] at h; cases h
  | [], _ :: _, _ :: _, _, _ => rfl
  | a :: x, b :: y, c :: z, h, h' => by
    rw [bl_cons] at h h' ⊢
    rcases h with h | ⟨rfl, h⟩ <;> rcases h' with h' | ⟨rfl, h'⟩
    · left; omega
    · left; exact h
    · left; exact h'
    · right; exact ⟨rfl, bl_trans h h'⟩
theorem bl_tri : ∀ a b : List UInt8, Op.bytesLess a b = true ∨ a = b ∨ Op.bytesLess b a = true
  | [], [] => .inr (.inl rfl)
  | [], _ :: _ => .inl rfl
  | _ :: _, [] => .inr (.inr rfl)
  | a :: x, b :: y => by
    rw [bl_cons, bl_cons]
    rcases Nat.lt_trichotomy a.toNat b.toNat with h | h | h
    · exact .inl (.inl h)
    · have e := UInt8.toNat_inj.1 h
      subst e
      rcases bl_tri x y with h1 | h1 | h1
      · exact .inl (.inr ⟨rfl, h1⟩)
      · subst h1; exact .inr (.inl rfl)
      · exact .inr (.inr (.inr ⟨rfl, h1⟩))
    · exact .inr (.inr (.inl h))
theorem bl_asym {a b : List UInt8} (h : Op.bytesLess a b = true) : Op.bytesLess b a = false := by
  rw [← Bool.not_eq_true]
  intro h'
  have := bl_trans h h'
  rw [bl_irrefl] at this; cases this
theorem bl_ne {a b : List UInt8} (h : Op.bytesLess a b = true) : a ≠ b := fun e => by
  subst e; rw [bl_irrefl] at h; cases h
theorem cmp_spec : ∀ a b : List UInt8, (Lib.compareBytes a b < 0 ↔ Op.bytesLess a b = true) ∧ (Lib.compareBytes a b = 0 ↔ a = b)
  | [], [] => by simp [Lib.compareBytes, bl_nil]
  | [], _ :: _ => by simp [Lib.compareBytes]; rfl
  | _ :: _, [] => by simp [Lib.compareBytes, bl_nil]
  | a :: x, b :: y => by
    have ih := cmp_spec x y
    unfold Lib.compareBytes
    rw [bl_cons]
    simp only [UInt8.lt_iff_toNat_lt, List.cons.injEq]
    rcases Nat.lt_trichotomy a.toNat b.toNat with h | h | h
    · have hne : a ≠ b := fun e => by subst e; omega
      simp [h, hne]
    · have e := UInt8.toNat_inj.1 h
      subst e
      simp only [Nat.lt_irrefl, if_false, false_or, true_and]
      exact ih
    · have hne : a ≠ b := fun e => by subst e; omega
      rw [if_neg (by omega), if_pos h]
      constructor
      · constructor
        · intro h; omega
        · rintro (h' | ⟨h', _⟩)
          · omega
          · exact absurd h' hne
      · constructor
        · intro h; omega
        · rintro ⟨h', _⟩; exact absurd h' hne

/-! ### Names -/
/-- Where a byte may stand: 1, first; 2, later; 0, nowhere. -/
def placeP (c : Int) : Int := if 97 ≤ c ∧ c ≤ 122 then 1 else if (48 ≤ c ∧ c ≤ 57) ∨ c = 45 then 2 else 0
theorem place_eq (c : Int) : lines_place c = some (placeP c) := by
  unfold lines_place placeP
  by_cases h1 : 97 ≤ c
  · by_cases h2 : c ≤ 122
    · simp [h1, h2]
    · simp [h1, h2, show ¬ c ≤ 57 by omega, show ¬ c = 45 by omega, show 48 ≤ c by omega]
  · by_cases h3 : 48 ≤ c
    · by_cases h4 : c ≤ 57
      · simp [h1, h3, h4]
      · simp [h1, h3, h4, show ¬ c = 45 by omega]
    · by_cases h5 : c = 45
      · simp [h5]
      · simp [h1, h3, h5]
def byteAt (s : List UInt8) (i : Nat) : Int := Int.ofNat (s.getD i 0).toNat
theorem byteAt_bd (s : List UInt8) (i : Nat) : 0 ≤ byteAt s i ∧ byteAt s i ≤ 255 := by
  unfold byteAt
  have := (s.getD i 0).toNat_lt
  constructor
  · exact Int.natCast_nonneg _
  · show ((s.getD i 0).toNat : Int) ≤ 255
    omega
def nameP (s : List UInt8) : Bool := decide (1 ≤ s.length) && (decide (s.length ≤ 12) && (decide (placeP (byteAt s 0) = 1) && (List.range s.length).all fun i => decide (placeP (byteAt s i) ≠ 0)))
theorem name_eq (s : List UInt8) : lines_Name s = some (nameP s) := by
  unfold lines_Name nameP
  by_cases h1 : s.length < 1
  · rw [dec_t (show (s.length : Int) < 1 by omega), dec_f (show ¬ 1 ≤ s.length by omega)]; rfl
  rw [dec_f (show ¬ (s.length : Int) < 1 by omega), dec_t (show 1 ≤ s.length by omega)]
  by_cases h2 : 12 < s.length
  · rw [dec_t (show 12 < (s.length : Int) by omega), dec_f (show ¬ s.length ≤ 12 by omega)]; rfl
  rw [dec_f (show ¬ 12 < (s.length : Int) by omega), dec_t (show s.length ≤ 12 by omega), gd_t (show inB 0 s.length = true from inB_t (i := 0) (by omega)), place_eq]
  simp only [cond_false, Option.bind_some, Bool.true_and]
  show (bif !decide (placeP (byteAt s 0) = 1) then some false else _) = _
  by_cases h3 : placeP (byteAt s 0) = 1
  · rw [dec_t h3]
    have := iter_all (step := fun x => lines_Name_L0 s x) s.length (fun i => (i : Int)) (fun i => decide (placeP (byteAt s i) ≠ 0)) (fin := .inl ()) (bad := .inr false) (fun i hi _ hp => by
        unfold lines_Name_L0
        simp only [dec_t (show (i : Int) < (s.length : Int) by omega), cond_true, gd_t (inB_t hi), Int.toNat_natCast, place_eq, Option.bind_some]
        show (bif decide (placeP (byteAt s i) = 0) then _ else _) = _
        rw [dec_f (of_decide_eq_true hp), wi (by omega)]; rfl) (fun i hi _ hp => by
        unfold lines_Name_L0
        simp only [dec_t (show (i : Int) < (s.length : Int) by omega), cond_true, gd_t (inB_t hi), Int.toNat_natCast, place_eq, Option.bind_some]
        show (bif decide (placeP (byteAt s i) = 0) then _ else _) = _
        rw [dec_t (by simpa using hp)]; rfl) (fun _ => by
        unfold lines_Name_L0
        simp only [dec_f (show ¬ (s.length : Int) < (s.length : Int) by omega), cond_false])
    simp only [Bool.not_true, cond_false, Bool.true_and]
    rw [show (0 : Int) = ((0 : Nat) : Int) from rfl, this]
    cases (List.range s.length).all fun i => decide (placeP (byteAt s i) ≠ 0) <;> rfl
  · rw [dec_f h3]; rfl
theorem rname_eq (s : List UInt8) : ref03_Name s = some (nameP s) := by
  unfold ref03_Name nameP
  by_cases h1 : s.length < 1
  · rw [dec_t (show (s.length : Int) < 1 by omega), dec_f (show ¬ 1 ≤ s.length by omega)]; rfl
  rw [dec_f (show ¬ (s.length : Int) < 1 by omega), dec_t (show 1 ≤ s.length by omega)]
  by_cases h2 : 12 < s.length
  · rw [dec_t (show 12 < (s.length : Int) by omega), dec_f (show ¬ s.length ≤ 12 by omega)]; rfl
  rw [dec_f (show ¬ 12 < (s.length : Int) by omega), dec_t (show s.length ≤ 12 by omega), gd_t (show inB 0 s.length = true from inB_t (i := 0) (by omega)), gd_t (show inB 0 s.length = true from inB_t (i := 0) (by omega))]
  have e0 : (bif decide ((Int.ofNat (s.getD 0 0).toNat) < 97) then some true else some (decide (122 < (Int.ofNat (s.getD 0 0).toNat)))) = some (!decide (placeP (byteAt s 0) = 1)) := by
    show (bif decide (byteAt s 0 < 97) then some true else some (decide (122 < byteAt s 0))) = _
    generalize byteAt s 0 = c
    unfold placeP
    by_cases a1 : c < 97
    · rw [dec_t a1, if_neg (by omega)]
      split <;> rfl
    · rw [dec_f a1]
      by_cases a2 : 122 < c
      · rw [dec_t a2, if_neg (by omega)]
        split <;> rfl
      · rw [dec_f a2, if_pos (by omega)]; rfl
  rw [e0]
  simp only [cond_false, Option.bind_some, Bool.true_and]
  by_cases h3 : placeP (byteAt s 0) = 1
  · rw [dec_t h3]
    have step : ∀ i : Nat, i < s.length → ref03_Name_L0 s (i : Int) = bif decide (placeP (byteAt s i) ≠ 0) then some (.inl ((i + 1 : Nat) : Int)) else some (.inr (.inr false)) := by
      intro i hi
      have hb := byteAt_bd s i
      unfold ref03_Name_L0
      simp only [dec_t (show (i : Int) < (s.length : Int) by omega), cond_true, gd_t (inB_t hi), Int.toNat_natCast]
      simp only [show (Int.ofNat (s.getD i 0).toNat) = byteAt s i from rfl]
      generalize byteAt s i = c at hb
      unfold placeP
      rw [show wi64 ((i : Int) + 1) = ((i + 1 : Nat) : Int) by rw [wi (by omega)]; rfl]
      by_cases a1 : c < 97
      · by_cases a3 : c < 48
        · by_cases a5 : c = 45
          · simp [a5]
          · simp [a1, a3, a5, show ¬ 97 ≤ c by omega, show ¬ 48 ≤ c by omega]
        · by_cases a4 : 57 < c
          · simp [a1, a3, a4, show ¬ 97 ≤ c by omega, show ¬ c ≤ 57 by omega, show ¬ c = 45 by omega]
          · simp [a1, a3, a4, show ¬ 97 ≤ c by omega, show 48 ≤ c by omega, show c ≤ 57 by omega]
      · by_cases a2 : 122 < c
        · simp [a1, a2, show ¬ c ≤ 122 by omega, show ¬ c < 48 by omega, show 57 < c by omega, show ¬ c = 45 by omega, show ¬ c ≤ 57 by omega]
        · simp [a1, a2, show 97 ≤ c by omega, show c ≤ 122 by omega]
    have := iter_all (step := fun x => ref03_Name_L0 s x) s.length (fun i => (i : Int)) (fun i => decide (placeP (byteAt s i) ≠ 0)) (fin := .inl ()) (bad := .inr false) (fun i hi _ hp => by
        rw [step i hi, hp]; rfl) (fun i hi _ hp => by
        rw [step i hi, hp]; rfl) (fun _ => by
        unfold ref03_Name_L0
        simp only [dec_f (show ¬ (s.length : Int) < (s.length : Int) by omega), cond_false])
    simp only [Bool.not_true, cond_false, Bool.true_and]
    rw [show (0 : Int) = ((0 : Nat) : Int) from rfl, this]
    cases (List.range s.length).all fun i => decide (placeP (byteAt s i) ≠ 0) <;> rfl
  · rw [dec_f h3]; rfl

/-! ### What is valid -/
def volP (n : Int) : Bool := decide (0 ≤ n ∧ n ≤ 1099511627776)
def sgnP (n : Int) : Bool := decide (-1099511627776 ≤ n ∧ n ≤ 1099511627776)
theorem vol_eq (n : Int) : allocate_Volume n = some (volP n) := by
  unfold allocate_Volume volP
  by_cases h : 0 ≤ n <;> simp [h]
theorem sgn_eq (n : Int) : allocate_Signed n = some (sgnP n) := signed_eq n
def entP (e : Ent) : Bool := (decide (e.2.1 = 1 ∨ e.2.1 = 2 ∨ e.2.1 = 3) && volP e.2.2 || decide (e.2.1 = 4) && sgnP e.2.2) && nameP e.1
theorem ent_eq (e : Ent) : allocate_Entry e = some (entP e) := by
  unfold allocate_Entry entP
  rw [vol_eq, sgn_eq, name_eq]
  by_cases h1 : e.2.1 = 1
  · simp only [h1]; cases volP e.2.2 <;> simp
  · by_cases h2 : e.2.1 = 2
    · simp only [h2]; cases volP e.2.2 <;> simp
    · by_cases h3 : e.2.1 = 3
      · simp only [h3]; cases volP e.2.2 <;> simp
      · by_cases h4 : e.2.1 = 4
        · simp only [h4]; cases sgnP e.2.2 <;> simp
        · simp [h1, h2, h3, h4]
theorem rright_eq (e : Ent) : ref38_Right e = some (entP e) := by
  unfold ref38_Right entP volP sgnP
  rw [rname_eq]
  cases nameP e.1
  · simp
  · by_cases h1 : e.2.1 = 1
    · simp only [h1]
      by_cases a1 : 0 ≤ e.2.2 <;> simp [a1]
    · by_cases h2 : e.2.1 = 2
      · simp only [h2]
        by_cases a1 : 0 ≤ e.2.2 <;> simp [a1]
      · by_cases h3 : e.2.1 = 3
        · simp only [h3]
          by_cases a1 : 0 ≤ e.2.2 <;> simp [a1]
        · by_cases h4 : e.2.1 = 4
          · simp only [h4]
            by_cases a1 : -1099511627776 ≤ e.2.2 <;> simp [a1]
          · simp [h1, h2, h3, h4]

theorem few_eq (l : List Int) : second_Few l = some (decide ((l.length : Int) ≤ 400)) := rfl
theorem smod_eq {x n : Int} (hx : i64P x) (h1 : 1 ≤ n) (h2 : n ≤ 4611686018427387904) : second_Mod x n = some (x % n) := by
  unfold second_Mod; rw [mod_eq hx h1 h2]; rfl

/-- Entries as they are made. -/
structure EntP (e : Ent) : Prop where
  ok : entP e = true
  kind : 1 ≤ e.2.1 ∧ e.2.1 ≤ 4
  vol : -1073741824 ≤ e.2.2 ∧ e.2.2 ≤ 1073741824
  pos : e.2.1 ≠ 4 → 0 ≤ e.2.2
  nm : e.1 ∈ ([[97], [98, 111], [99, 51], [100, 101, 108, 116, 97], [101]] : List (List UInt8))
theorem ent_ok {s : List UInt8} {k v : Int} (hs : s ∈ ([[97], [98, 111], [99, 51], [100, 101, 108, 116, 97], [101]] : List (List UInt8))) (hk : 1 ≤ k ∧ k ≤ 4) (hv : -1073741824 ≤ v ∧ v ≤ 1073741824) (hp : k ≠ 4 → 0 ≤ v) : EntP (s, (k, v)) := by
  refine ⟨?_, hk, hv, hp, hs⟩
  have hn : nameP s = true := by
    simp only [List.mem_cons, List.not_mem_nil, or_false] at hs
    rcases hs with rfl | rfl | rfl | rfl | rfl <;> kernel_rfl
  simp only [entP, Bool.and_eq_true, Bool.or_eq_true, decide_eq_true_eq, volP, sgnP, hn, and_true]
  by_cases h4 : k = 4
  · right; exact ⟨h4, by omega, by omega⟩
  · left; have := hp h4; omega

theorem entries_eq {m : Int} {s : List Int} {p : Int} (h : SrcOk s p) (hm : 0 ≤ m ∧ m ≤ 1000) : Ok (second_Entries m s p) fun r => ∃ (p' : Int) (x : List Ent), r = (s, p', x) ∧ SrcOk s p' ∧ (x.length : Int) ≤ m ∧ ∀ e ∈ x, EntP e := by
  unfold second_Entries
  rw [wi (by omega)]
  obtain ⟨n, p1, q1, q2, q3, q4⟩ := n_eq (n := m + 1) h (by omega) (by omega)
  refine Ok.eq q1 (Ok.bind (Q := fun r => ∃ (p' : Int) (x : List Ent), r = (s, p', x) ∧ SrcOk s p' ∧ (x.length : Int) ≤ m ∧ ∀ e ∈ x, EntP e) ?_ fun r hr => ?_)
  · refine Ok.loop (fun x => ∃ (i p' : Int) (l : List Ent), x = (i, s, p', l) ∧ 0 ≤ i ∧ (l.length : Int) + i ≤ m ∧ SrcOk s p' ∧ ∀ e ∈ l, EntP e) (fun x => x.1.toNat) ⟨n, p1, [], rfl, q2, by simp; omega, q4, by simp⟩ ?_
    rintro _ ⟨i, p', l, rfl, k1, k2, k3, k4⟩
    unfold second_Entries_L0
    refine Ok.bif (fun hi => ?_) (fun hi => Ok.ret ⟨p', l, rfl, k3, by omega, k4⟩)
    have hi := of_decide_eq_true hi
    obtain ⟨a, p2, a1, a2, a3, a4⟩ := n_eq (n := 5) k3 (by omega) (by omega)
    obtain ⟨k, rfl⟩ : ∃ k : Nat, a = (k : Int) := ⟨a.toNat, by omega⟩
    have ht : keep_Src_Text [[97], [98, 111], [99, 51], [100, 101, 108, 116, 97], [101]] s p' = some ([[97], [98, 111], [99, 51], [100, 101, 108, 116, 97], [101]].getD k [], s, p2) := by
      unfold keep_Src_Text
      rw [show (([[97], [98, 111], [99, 51], [100, 101, 108, 116, 97], [101]] : List (List UInt8)).length : Int) = 5 from rfl, a1]
      simp only [Option.bind_some]
      rw [gd_t (inB_t (by simp; omega)), Int.toNat_natCast]
    refine Ok.eq ht ?_
    obtain ⟨b, p3, b1, b2, b3, b4⟩ := n_eq (n := 4) a4 (by omega) (by omega)
    refine Ok.eq b1 ?_
    obtain ⟨c, p4, c1, c2, c3, c4⟩ := n_eq (n := 1000) b4 (by omega) (by omega)
    refine Ok.eq c1 ?_
    obtain ⟨d, p5, d1, d2, d3⟩ := pick_eq (l := [0, 1, 50, c, 1073741824]) c4 (by simp) (by simp)
    refine Ok.eq d1 ?_
    have hd : 0 ≤ d ∧ d ≤ 1073741824 := by
      simp only [List.mem_cons, List.not_mem_nil, or_false] at d2
      omega
    have hk : wi64 (1 + b) = 1 + b := wi (by omega)
    simp only [hk]
    have hmem : ([[97], [98, 111], [99, 51], [100, 101, 108, 116, 97], [101]] : List (List UInt8)).getD k [] ∈ ([[97], [98, 111], [99, 51], [100, 101, 108, 116, 97], [101]] : List (List UInt8)) := gD_mem (by simp; omega)
    refine Ok.bind (Q := fun y => ∃ (t : Bool) (p6 : Int), y = (t, s, p6, l) ∧ SrcOk s p6 ∧ (t = true → 1 + b = 4)) ?_ ?_
    · refine Ok.bif (fun h4 => ?_) (fun _ => Ok.ret ⟨false, p5, rfl, d3, fun h => by cases h⟩)
      obtain ⟨f, p6, f1, f2, f3, f4⟩ := n_eq (n := 2) d3 (by omega) (by omega)
      exact Ok.eq f1 (Ok.ret ⟨_, p6, rfl, f4, fun _ => of_decide_eq_true h4⟩)
    · rintro _ ⟨t, p6, rfl, g1, g2⟩
      refine Ok.bind (Q := fun y => ∃ v : Int, y = (v, l) ∧ (v = d ∨ (v = -d ∧ 1 + b = 4))) ?_ ?_
      · refine Ok.bif (fun ht => Ok.ret ⟨-d, ?_, .inr ⟨rfl, g2 ht⟩⟩) (fun _ => Ok.ret ⟨d, rfl, .inl rfl⟩)
        simp only
        rw [wi (by omega), Int.zero_sub]
      · rintro _ ⟨v, rfl, hv⟩
        simp only
        refine Ok.gd (fits_t (by omega)) (Ok.ret ?_)
        rw [wi (by omega)]
        refine ⟨⟨i - 1, p6, _, rfl, by omega, by simp; omega, g1, fun e he => ?_⟩, by simp only; omega⟩
        rcases List.mem_append.1 he with he | he
        · exact k4 e he
        · rw [List.mem_singleton.1 he]
          exact ent_ok hmem (by omega) (by omega) (by omega)
  · obtain ⟨p', x, rfl, r1, r2, r3⟩ := hr
    exact Ok.ret ⟨p', x, rfl, r1, r2, r3⟩

theorem same38 {a : List Ent} (h : a.length ≤ 1000000) : ref38_Same a a = some true := by
  have := iter_for (step := fun x => ref38_Same_L0 a a x) a.length (fun i => (i : Int)) (e := .inl ()) (fun i hi => by
      unfold ref38_Same_L0
      simp only [dec_t (show (i : Int) < (a.length : Int) by omega), cond_true, gd_t (inB_t hi), decide_true, Bool.and_self, Bool.not_true, cond_false]
      rw [wi (by omega)]; rfl) (by
      unfold ref38_Same_L0
      simp only [dec_f (show ¬ (a.length : Int) < (a.length : Int) by omega), cond_false])
  unfold ref38_Same
  simp only [decide_true, Bool.not_true, cond_false]
  rw [show ((0 : Int)) = ((0 : Nat) : Int) from rfl, this]; rfl

end Go.Proofs.Ytmleldfhkangbaa
