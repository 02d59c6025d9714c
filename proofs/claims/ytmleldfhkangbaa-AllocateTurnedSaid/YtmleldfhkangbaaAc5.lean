/- Accounts: what posting an entry and a book of entries come to. No condition. -/
import Derived.Test.YtmleldfhkangbaaAc4
namespace Go.Proofs.Ytmleldfhkangbaa
open Go Go.Sq

theorem pw_of {l : List Acc} : (∀ i k, i < k → k < l.length → Op.bytesLess (l.getD i d0).1 (l.getD k d0).1 = true) ↔ l.Pairwise (fun a b => Op.bytesLess a.1 b.1 = true) := by
  rw [List.pairwise_iff_getElem]
  constructor
  · intro h i k hi hk hik
    have := h i k hik hk
    rwa [gD_eq hi, gD_eq hk] at this
  · intro h i k hik hk
    rw [gD_eq (show i < l.length by omega), gD_eq hk]
    exact h i k (by omega) hk hik
theorem valid_iff {l : List Acc} : ValidP l ↔ l.length ≤ 64 ∧ (∀ a ∈ l, accP a = true) ∧ (∀ a ∈ l, nameP a.1 = true) ∧ l.Pairwise (fun a b => Op.bytesLess a.1 b.1 = true) :=
  ⟨fun h => ⟨h.n, h.acc, h.nm, pw_of.1 h.lt⟩, fun h => ⟨h.1, h.2.1, h.2.2.1, pw_of.2 h.2.2.2⟩⟩

/-- What an entry adds to each of the sums. -/
def g1 (e : Ent) : Int := if e.2.1 = 1 then e.2.2 else 0
def g2 (e : Ent) : Int := if e.2.1 = 2 then e.2.2 else 0
def g3 (e : Ent) : Int := if e.2.1 = 3 then e.2.2 else 0
def g4 (e : Ent) : Int := if e.2.1 = 4 then e.2.2 else 0
def addA (a : Acc) (e : Ent) : Acc := (a.1, (a.2.1 + g1 e, (a.2.2.1 + g2 e, (a.2.2.2.1 + g3 e, a.2.2.2.2 + g4 e))))
def zeroA (s : List UInt8) : Acc := (s, (0, (0, (0, 0))))
theorem posted_add {a : Acc} {e : Ent} (ha : accP a = true) (he : entP e = true) : postedP a e = addA a e := by
  have h1 := accP_bd ha
  have h2 : -1099511627776 ≤ e.2.2 ∧ e.2.2 ≤ 1099511627776 := by
    simp only [entP, volP, sgnP, Bool.and_eq_true, Bool.or_eq_true, decide_eq_true_eq] at he
    omega
  unfold postedP addA g1 g2 g3 g4
  by_cases k1 : e.2.1 = 1
  · rw [if_pos k1, wi (by omega)]; simp [k1]
  by_cases k2 : e.2.1 = 2
  · rw [if_neg k1, if_pos k2, wi (by omega)]; simp [k2]
  by_cases k3 : e.2.1 = 3
  · rw [if_neg k1, if_neg k2, if_pos k3, wi (by omega)]; simp [k3]
  by_cases k4 : e.2.1 = 4
  · rw [if_neg k1, if_neg k2, if_neg k3, if_pos k4, wi (by omega)]; simp [k4]
  · simp [k1, k2, k3, k4]
theorem zero_acc (s : List UInt8) : accP (zeroA s) = true := rfl

/-- Accounts behind an entry that is posted. -/
def Posted (l : List Acc) (e : Ent) (r : List Acc) : Prop := ∃ P Q : List Acc,
  (∃ a, l = P ++ a :: Q ∧ r = P ++ addA a e :: Q ∧ a.1 = e.1) ∨
  (l = P ++ Q ∧ r = P ++ addA (zeroA e.1) e :: Q ∧ (∀ q ∈ P, Op.bytesLess q.1 e.1 = true) ∧ ∀ q ∈ Q, Op.bytesLess e.1 q.1 = true)

theorem post_good {l : List Acc} {e : Ent} (hv : ValidP l) (he : entP e = true) (ha : ∀ a ∈ l, a.1 = e.1 → accP (addA a e) = true) (hz : accP (addA (zeroA e.1) e) = true) (hn : l.length < 64 ∨ ∃ a ∈ l, a.1 = e.1) :
    ∃ r, postF l e = (r, 0) ∧ Posted l e r := by
  have hl := hv.n
  obtain ⟨_, _, hp⟩ := post_eq (l := l) (e := e) (by omega)
  obtain ⟨k, hk, h⟩ := hp.good hv he
  rcases h with ⟨hkl, hke, hr⟩ | ⟨hno, hr⟩
  · have hm := gD_mem (d := d0) hkl
    rw [posted_add (hv.acc _ hm) he, if_pos (ha _ hm hke)] at hr
    refine ⟨_, hr, l.take k, l.drop (k + 1), .inl ⟨l.getD k d0, ?_, ?_, hke⟩⟩
    · rw [gD_eq hkl, ← List.drop_eq_getElem_cons hkl, List.take_append_drop]
    · rw [List.set_eq_take_append_cons_drop, if_pos hkl]
  · have h64 : l.length ≠ 64 := by
      rcases hn with hn | ⟨a, ha1, ha2⟩
      · omega
      · intro _
        obtain ⟨j, hj, rfl⟩ := mem_gD d0 ha1
        rcases Nat.lt_trichotomy j k with h | h | h
        · have := hk.lt j h
          rw [ha2, bl_irrefl] at this; cases this
        · subst h; exact hno ⟨hj, ha2⟩
        · have h1 := hv.lt k j h hj
          have h2 := hk.ge k (Nat.le_refl _) (by omega)
          rw [ha2] at h1
          rw [h1] at h2; cases h2
    rw [show ((e.1, (0, (0, (0, 0)))) : Acc) = zeroA e.1 from rfl, posted_add (zero_acc _) he, if_pos ⟨hz, h64⟩] at hr
    refine ⟨_, hr, l.take k, l.drop k, .inr ⟨(List.take_append_drop _ _).symm, rfl, fun q hq => ?_, fun q hq => ?_⟩⟩
    · obtain ⟨j, hj, rfl⟩ := mem_gD d0 hq
      rw [List.length_take] at hj
      rw [gD_take, if_pos (by omega)]
      exact hk.lt j (by omega)
    · obtain ⟨j, hj, rfl⟩ := mem_gD d0 hq
      rw [List.length_drop] at hj
      rw [gD_drop]
      have h1 := hk.ge (k + j) (by omega) (by omega)
      rcases bl_tri (l.getD (k + j) d0).1 e.1 with h | h | h
      · rw [h] at h1; cases h1
      · by_cases h0 : j = 0
        · subst h0; exact absurd ⟨by omega, h⟩ hno
        · have h2 := hv.lt k (k + j) (by omega) (by omega)
          have h3 := hk.ge k (Nat.le_refl _) (by omega)
          rw [h] at h2
          rw [h2] at h3; cases h3
      · exact h

theorem Posted.len {l r : List Acc} {e : Ent} (h : Posted l e r) : l.length ≤ r.length ∧ r.length ≤ l.length + 1 := by
  obtain ⟨P, Q, ⟨a, rfl, rfl, _⟩ | ⟨rfl, rfl, _⟩⟩ := h
  · simp
  · simp; omega
theorem Posted.len2 {l r : List Acc} {e : Ent} (h : Posted l e r) (hm : ∃ a ∈ l, a.1 = e.1) : r.length = l.length := by
  obtain ⟨P, Q, ⟨a, rfl, rfl, _⟩ | ⟨rfl, rfl, h1, h2⟩⟩ := h
  · simp
  · obtain ⟨a, ha, ha2⟩ := hm
    rcases List.mem_append.1 ha with h | h
    · exact absurd ha2 (bl_ne (h1 a h))
    · exact absurd ha2.symm (bl_ne (h2 a h))
theorem Posted.valid {l r : List Acc} {e : Ent} (h : Posted l e r) (hv : ValidP l) (he : nameP e.1 = true) (ha : ∀ a ∈ l, a.1 = e.1 → accP (addA a e) = true) (hz : accP (addA (zeroA e.1) e) = true) (hn : r.length ≤ 64) : ValidP r := by
  have h0 := hv
  rw [valid_iff] at hv ⊢
  obtain ⟨P, Q, ⟨a, rfl, rfl, hae⟩ | ⟨rfl, rfl, h1, h2⟩⟩ := h
  · refine ⟨hn, fun q hq => ?_, fun q hq => ?_, ?_⟩
    · simp only [List.mem_append, List.mem_cons] at hq
      rcases hq with hq | rfl | hq
      · exact hv.2.1 q (by simp [hq])
      · exact ha a (by simp) hae
      · exact hv.2.1 q (by simp [hq])
    · simp only [List.mem_append, List.mem_cons] at hq
      rcases hq with hq | rfl | hq
      · exact hv.2.2.1 q (by simp [hq])
      · exact hv.2.2.1 a (by simp)
      · exact hv.2.2.1 q (by simp [hq])
    · have := hv.2.2.2
      simp only [List.pairwise_append, List.pairwise_cons, List.mem_cons] at this ⊢
      refine ⟨this.1, ⟨fun b hb => this.2.1.1 b hb, this.2.1.2⟩, fun b hb c hc => ?_⟩
      rcases hc with rfl | hc
      · exact this.2.2 b hb a (.inl rfl)
      · exact this.2.2 b hb c (.inr hc)
  · refine ⟨hn, fun q hq => ?_, fun q hq => ?_, ?_⟩
    · simp only [List.mem_append, List.mem_cons] at hq
      rcases hq with hq | rfl | hq
      · exact hv.2.1 q (by simp [hq])
      · exact hz
      · exact hv.2.1 q (by simp [hq])
    · simp only [List.mem_append, List.mem_cons] at hq
      rcases hq with hq | rfl | hq
      · exact hv.2.2.1 q (by simp [hq])
      · exact he
      · exact hv.2.2.1 q (by simp [hq])
    · have := hv.2.2.2
      simp only [List.pairwise_append, List.pairwise_cons, List.mem_cons] at this ⊢
      refine ⟨this.1, ⟨fun b hb => h2 b hb, this.2.1⟩, fun b hb c hc => ?_⟩
      rcases hc with rfl | hc
      · exact h1 b hb
      · exact this.2.2 b hb c hc
theorem Posted.all {l r : List Acc} {e : Ent} (h : Posted l e r) {p : Acc → Prop} (hl : ∀ a ∈ l, p a) (ha : ∀ a ∈ l, a.1 = e.1 → p (addA a e)) (hz : p (addA (zeroA e.1) e)) : ∀ a ∈ r, p a := by
  obtain ⟨P, Q, ⟨a, rfl, rfl, hae⟩ | ⟨rfl, rfl, h1, h2⟩⟩ := h
  · intro q hq
    simp only [List.mem_append, List.mem_cons] at hq
    rcases hq with hq | rfl | hq
    · exact hl q (by simp [hq])
    · exact ha a (by simp) hae
    · exact hl q (by simp [hq])
  · intro q hq
    simp only [List.mem_append, List.mem_cons] at hq
    rcases hq with hq | rfl | hq
    · exact hl q (by simp [hq])
    · exact hz
    · exact hl q (by simp [hq])
theorem Posted.keep {l r : List Acc} {e : Ent} (h : Posted l e r) : ∀ a ∈ l, a.1 ≠ e.1 → a ∈ r := by
  obtain ⟨P, Q, ⟨a, rfl, rfl, hae⟩ | ⟨rfl, rfl, h1, h2⟩⟩ := h
  · intro q hq hne
    simp only [List.mem_append, List.mem_cons] at hq ⊢
    rcases hq with hq | rfl | hq
    · exact .inl hq
    · exact absurd hae hne
    · exact .inr (.inr hq)
  · intro q hq hne
    simp only [List.mem_append, List.mem_cons] at hq ⊢
    rcases hq with hq | hq
    · exact .inl hq
    · exact .inr (.inr hq)
theorem Posted.names {l r : List Acc} {e : Ent} (h : Posted l e r) (s : List UInt8) : (∃ a ∈ r, a.1 = s) ↔ (∃ a ∈ l, a.1 = s) ∨ e.1 = s := by
  obtain ⟨P, Q, ⟨a, rfl, rfl, hae⟩ | ⟨rfl, rfl, h1, h2⟩⟩ := h
  · simp only [List.mem_append, List.mem_cons]
    constructor
    · rintro ⟨q, hq | rfl | hq, hs⟩
      · exact .inl ⟨q, .inl hq, hs⟩
      · exact .inr (hae.symm.trans hs)
      · exact .inl ⟨q, .inr (.inr hq), hs⟩
    · rintro (⟨q, hq | rfl | hq, hs⟩ | hs)
      · exact ⟨q, .inl hq, hs⟩
      · exact ⟨_, .inr (.inl rfl), hs⟩
      · exact ⟨q, .inr (.inr hq), hs⟩
      · exact ⟨_, .inr (.inl rfl), hae.trans hs⟩
  · simp only [List.mem_append, List.mem_cons]
    constructor
    · rintro ⟨q, hq | rfl | hq, hs⟩
      · exact .inl ⟨q, .inl hq, hs⟩
      · exact .inr hs
      · exact .inl ⟨q, .inr hq, hs⟩
    · rintro (⟨q, hq | hq, hs⟩ | hs)
      · exact ⟨q, .inl hq, hs⟩
      · exact ⟨q, .inr (.inr hq), hs⟩
      · exact ⟨_, .inr (.inl rfl), hs⟩

/-! ### What is added up -/
/-- A sum of an account, and what an entry adds to it. -/
structure Lin (f : Acc → Int) (g : Ent → Int) : Prop where
  add : ∀ a e, f (addA a e) = f a + g e
  zero : ∀ s, f (zeroA s) = 0
theorem lin1 : Lin (fun a => a.2.1) g1 := ⟨fun _ _ => rfl, fun _ => rfl⟩
theorem lin2 : Lin (fun a => a.2.2.1) g2 := ⟨fun _ _ => rfl, fun _ => rfl⟩
theorem lin3 : Lin (fun a => a.2.2.2.1) g3 := ⟨fun _ _ => rfl, fun _ => rfl⟩
theorem lin4 : Lin (fun a => a.2.2.2.2) g4 := ⟨fun _ _ => rfl, fun _ => rfl⟩
def gS (e : Ent) : Int := g1 e - g2 e - g3 e + g4 e
theorem linS : Lin stockP gS := ⟨fun a e => by simp only [stockP, addA, gS]; omega, fun _ => rfl⟩
theorem Posted.sum {l r : List Acc} {e : Ent} (h : Posted l e r) {f : Acc → Int} {g : Ent → Int} (hf : Lin f g) : isum (r.map f) = isum (l.map f) + g e := by
  obtain ⟨P, Q, ⟨a, rfl, rfl, hae⟩ | ⟨rfl, rfl, h1, h2⟩⟩ := h
  · simp only [List.map_append, List.map_cons, isum_app, isum, hf.add]; omega
  · simp only [List.map_append, List.map_cons, isum_app, isum, hf.add, hf.zero]; omega
def tot (f : Acc → Int) (l : List Acc) (s : List UInt8) : Int := isum (l.map fun q => if q.1 = s then f q else 0)
def totE (g : Ent → Int) (x : List Ent) (s : List UInt8) : Int := isum (x.map fun e => if e.1 = s then g e else 0)
theorem posted_tot {l r : List Acc} {e : Ent} (h : Posted l e r) {f : Acc → Int} {g : Ent → Int} (hf : Lin f g) (s : List UInt8) : tot f r s = tot f l s + if e.1 = s then g e else 0 := by
  unfold tot
  obtain ⟨P, Q, ⟨a, rfl, rfl, hae⟩ | ⟨rfl, rfl, h1, h2⟩⟩ := h
  · simp only [List.map_append, List.map_cons, isum_app, isum, hf.add]
    rw [show (addA a e).1 = a.1 from rfl, hae]
    split <;> omega
  · simp only [List.map_append, List.map_cons, isum_app, isum, hf.add, hf.zero]
    rw [show (addA (zeroA e.1) e).1 = e.1 from rfl]
    split <;> omega
theorem tot_none {f : Acc → Int} : ∀ {l : List Acc} {s : List UInt8}, (∀ a ∈ l, a.1 ≠ s) → tot f l s = 0
  | [], _, _ => rfl
  | a :: l, s, h => by
    have := tot_none (f := f) (l := l) (s := s) fun q hq => h q (by simp [hq])
    unfold tot at this ⊢
    simp only [List.map_cons, isum, if_neg (h a (by simp)), this]; rfl
theorem tot_one {f : Acc → Int} {l : List Acc} (hp : l.Pairwise (fun a b => Op.bytesLess a.1 b.1 = true)) {a : Acc} (ha : a ∈ l) : tot f l a.1 = f a := by
  obtain ⟨P, Q, rfl⟩ := List.append_of_mem ha
  rw [List.pairwise_append, List.pairwise_cons] at hp
  have h1 := tot_none (f := f) (l := P) (s := a.1) fun q hq e => bl_ne (hp.2.2 q hq a (by simp)) e
  have h2 := tot_none (f := f) (l := Q) (s := a.1) fun q hq e => bl_ne (hp.2.1.1 q hq) e.symm
  unfold tot at h1 h2 ⊢
  simp only [List.map_append, List.map_cons, isum_app, isum, if_pos, h1, h2]; omega
theorem acc_ext {a b : Acc} (h0 : a.1 = b.1) (h1 : a.2.1 = b.2.1) (h2 : a.2.2.1 = b.2.2.1) (h3 : a.2.2.2.1 = b.2.2.2.1) (h4 : a.2.2.2.2 = b.2.2.2.2) : a = b := by
  obtain ⟨a0, a1, a2, a3, a4⟩ := a
  obtain ⟨b0, b1, b2, b3, b4⟩ := b
  simp only at h0 h1 h2 h3 h4
  subst h0 h1 h2 h3 h4; rfl
theorem acc_uniq {l l' : List Acc} (hv : ValidP l) (hv' : ValidP l') (hn : ∀ s, (∃ a ∈ l, a.1 = s) ↔ ∃ a ∈ l', a.1 = s) (ht : ∀ f g, Lin f g → ∀ s, tot f l s = tot f l' s) : l = l' := by
  have p := (valid_iff.1 hv).2.2.2
  have p' := (valid_iff.1 hv').2.2.2
  have sub : ∀ {l l' : List Acc}, l.Pairwise (fun a b => Op.bytesLess a.1 b.1 = true) → l'.Pairwise (fun a b => Op.bytesLess a.1 b.1 = true) → (∀ s, (∃ a ∈ l, a.1 = s) → ∃ a ∈ l', a.1 = s) → (∀ f g, Lin f g → ∀ s, tot f l s = tot f l' s) → ∀ a ∈ l, a ∈ l' := by
    intro l l' p p' hn ht a ha
    obtain ⟨b, hb, hba⟩ := hn a.1 ⟨a, ha, rfl⟩
    have key : ∀ f g, Lin f g → f a = f b := fun f g hf => by
      have e1 := tot_one (f := f) p ha
      have e2 := tot_one (f := f) p' hb
      rw [hba] at e2
      rw [← e1, ← e2]; exact ht f g hf _
    have : a = b := acc_ext hba.symm (key _ _ lin1) (key _ _ lin2) (key _ _ lin3) (key _ _ lin4)
    rw [this]; exact hb
  have nd : ∀ {l : List Acc}, l.Pairwise (fun a b => Op.bytesLess a.1 b.1 = true) → l.Nodup := fun p => List.Pairwise.imp (fun {a b} (h : Op.bytesLess a.1 b.1 = true) (e : a = b) => bl_ne h (by rw [e])) p
  have hperm : l.Perm l' := (List.perm_ext_iff_of_nodup (nd p) (nd p')).2 fun a => ⟨sub p p' (fun s => (hn s).1) ht a, sub p' p (fun s => (hn s).2) (fun f g hf s => (ht f g hf s).symm) a⟩
  exact hperm.eq_of_pairwise (fun a b _ _ h h' => by
    have := bl_trans h h'
    rw [bl_irrefl] at this; cases this) p p'

/-! ### Books -/
def Bd (a : Acc) (n : Int) : Prop := (0 ≤ a.2.1 ∧ a.2.1 ≤ n * 1073741824) ∧ (0 ≤ a.2.2.1 ∧ a.2.2.1 ≤ n * 1073741824) ∧ (0 ≤ a.2.2.2.1 ∧ a.2.2.2.1 ≤ n * 1073741824) ∧ (-(n * 1073741824) ≤ a.2.2.2.2 ∧ a.2.2.2.2 ≤ n * 1073741824)
theorem Bd.acc {a : Acc} {n : Int} (h : Bd a n) (hn : n ≤ 1000) : accP a = true := by
  unfold Bd at h
  simp only [accP, volP, sgnP, Bool.and_eq_true, decide_eq_true_eq]
  omega
theorem Bd.add {a : Acc} {e : Ent} {n : Int} (h : Bd a n) (he : EntP e) : Bd (addA a e) (n + 1) := by
  have h1 := he.vol
  have h2 := he.kind
  have h3 := he.pos
  unfold Bd at h ⊢
  unfold addA g1 g2 g3 g4
  simp only
  by_cases k1 : e.2.1 = 1
  · have := h3 (by omega)
    simp only [k1, if_pos, show ¬ (1 : Int) = 2 by omega, show ¬ (1 : Int) = 3 by omega, show ¬ (1 : Int) = 4 by omega, if_false]; omega
  by_cases k2 : e.2.1 = 2
  · have := h3 (by omega)
    simp only [k2, if_pos, show ¬ (2 : Int) = 1 by omega, show ¬ (2 : Int) = 3 by omega, show ¬ (2 : Int) = 4 by omega, if_false]; omega
  by_cases k3 : e.2.1 = 3
  · have := h3 (by omega)
    simp only [k3, if_pos, show ¬ (3 : Int) = 1 by omega, show ¬ (3 : Int) = 2 by omega, show ¬ (3 : Int) = 4 by omega, if_false]; omega
  · have k4 : e.2.1 = 4 := by omega
    simp only [k4, if_pos, show ¬ (4 : Int) = 1 by omega, show ¬ (4 : Int) = 2 by omega, show ¬ (4 : Int) = 3 by omega, if_false]; omega
theorem Bd.zero (s : List UInt8) {n : Int} (h : 0 ≤ n) : Bd (zeroA s) n := by
  unfold Bd zeroA; simp only; omega
theorem Bd.mono {a : Acc} {m n : Int} (h : Bd a m) (hn : m ≤ n) : Bd a n := by
  unfold Bd at h ⊢; omega

/-- The accounts of entries. -/
structure BookP (x : List Ent) (a : List Acc) : Prop where
  valid : ValidP a
  len : a.length ≤ x.length
  bd : ∀ q ∈ a, Bd q x.length
  names : ∀ s, (∃ q ∈ a, q.1 = s) ↔ ∃ e ∈ x, e.1 = s
  tot : ∀ f g, Lin f g → ∀ s, tot f a s = totE g x s
  sum : ∀ f g, Lin f g → isum (a.map f) = isum (x.map g)
theorem book_nil : BookP [] [] := ⟨valid_iff.2 ⟨by simp, by simp, by simp, .nil⟩, by simp, by simp, by simp, fun _ _ _ _ => rfl, fun _ _ _ => rfl⟩
theorem ent_name {e : Ent} (h : entP e = true) : nameP e.1 = true := by
  simp only [entP, Bool.and_eq_true] at h; exact h.2
theorem book_post {x : List Ent} {a : List Acc} {e : Ent} (h : BookP x a) (he : EntP e) (hx : x.length ≤ 60) : ∃ r, postF a e = (r, 0) ∧ Posted a e r ∧ BookP (x ++ [e]) r := by
  have hl := h.len
  have b1 : ∀ q ∈ a, q.1 = e.1 → Bd (addA q e) (x.length + 1) := fun q hq _ => (h.bd q hq).add he
  have b2 : Bd (addA (zeroA e.1) e) (x.length + 1) := (Bd.zero e.1 (n := x.length) (by omega)).add he
  obtain ⟨r, q1, q2⟩ := post_good h.valid he.ok (fun q hq hqe => (b1 q hq hqe).acc (by omega)) (b2.acc (by omega)) (.inl (by omega))
  have hrl := q2.len
  refine ⟨r, q1, q2, q2.valid h.valid (ent_name he.ok) (fun q hq hqe => (b1 q hq hqe).acc (by omega)) (b2.acc (by omega)) (by omega), by simp; omega, ?_, fun s => ?_, fun f g hf s => ?_, fun f g hf => ?_⟩
  · have : (((x ++ [e]).length : Nat) : Int) = x.length + 1 := by simp
    rw [this]
    exact q2.all (fun q hq => (h.bd q hq).mono (by omega)) b1 b2
  · rw [q2.names, h.names]
    simp only [List.mem_append, List.mem_singleton]
    constructor
    · rintro (⟨q, hq, hs⟩ | hs)
      · exact ⟨q, .inl hq, hs⟩
      · exact ⟨e, .inr rfl, hs⟩
    · rintro ⟨q, hq | rfl, hs⟩
      · exact .inl ⟨q, hq, hs⟩
      · exact .inr hs
  · rw [posted_tot q2 hf, h.tot f g hf]
    unfold totE
    simp only [List.map_append, isum_app, List.map_cons, List.map_nil, isum]; omega
  · rw [q2.sum hf, h.sum f g hf]
    simp only [List.map_append, isum_app, List.map_cons, List.map_nil, isum]; omega
theorem book_run : ∀ (y x : List Ent) (a : List Acc), BookP x a → (∀ e ∈ y, EntP e) → x.length + y.length ≤ 60 → ∃ r, bookF y a = (r, 0) ∧ BookP (x ++ y) r
  | [], x, a, h, _, _ => ⟨a, rfl, by rw [List.append_nil]; exact h⟩
  | e :: y, x, a, h, he, hl => by
    simp only [List.length_cons] at hl
    obtain ⟨r, q1, _, q3⟩ := book_post h (he e (by simp)) (by omega)
    obtain ⟨r2, q4, q5⟩ := book_run y (x ++ [e]) r q3 (fun q hq => he q (by simp [hq])) (by simp; omega)
    refine ⟨r2, ?_, by rw [List.append_assoc] at q5; exact q5⟩
    unfold bookF
    rw [q1, if_pos rfl]; exact q4
theorem book_made {x : List Ent} (hx : ∀ e ∈ x, EntP e) (hl : x.length ≤ 60) : ∃ a, bookA x = (a, 0) ∧ BookP x a := by
  obtain ⟨r, q1, q2⟩ := book_run x [] [] book_nil hx (by simp; omega)
  refine ⟨r, ?_, q2⟩
  unfold bookA
  rw [if_neg (by omega)]; exact q1
theorem BookP.uniq {x y : List Ent} {a b : List Acc} (h : BookP x a) (h' : BookP y b) (hp : x.Perm y) : a = b := by
  refine acc_uniq h.valid h'.valid (fun s => ?_) fun f g hf s => ?_
  · rw [h.names, h'.names]
    constructor
    · rintro ⟨e, he, hs⟩; exact ⟨e, hp.mem_iff.1 he, hs⟩
    · rintro ⟨e, he, hs⟩; exact ⟨e, hp.mem_iff.2 he, hs⟩
  · rw [h.tot f g hf, h'.tot f g hf]
    exact isum_perm (hp.map _)
end Go.Proofs.Ytmleldfhkangbaa
