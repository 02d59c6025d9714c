/- Networks as rows of words. No condition. -/
import Derived.Test.YtpgigbdefbeagaaGreatDoorPr8
namespace Go.Proofs.YtpgigbdefbeagaaGreatDoor
open Go Go.Sq
/-! ### Numerals, with signs -/
theorem qoG (n : Int) : wordB (Lib.itoa n) = true := by
 by_cases h : n < 0
 ·have h2 := ql3 (n := (n.natAbs : Int)) (by omega)
  rw [qn0 (by omega), Int.toNat_natCast] at h2
  unfold Lib.itoa
  rw [if_pos h]
  unfold wordB at h2 ⊢
  rw [Bool.and_eq_true] at h2
  rw [List.all_cons, h2.1]; rfl
 ·exact ql3 (by omega)
theorem qqx {n : Int} (h : n.natAbs < 1000000000) : (Lib.itoa n).length ≤ 10 := by
 have h2 := qqr 8 n.natAbs (by omega)
 unfold Lib.itoa
 split
 ·rw [List.length_cons]; omega
 ·rw [show n.toNat = n.natAbs by omega]; omega
/-! ### Loops that gather -/
theorem qqy {A B : Type} (l : List A) (d : A) (f : A → List B) (K M : Nat) (hK : ∀ x ∈ l, (f x).length ≤ K) {step : Int × List B → Option ((Int × List B) ⊕ List B)} (out : List B) (hM : out.length + l.length * K ≤ M)
  (hs : ∀ i, i < l.length → ∀ o : List B, o.length ≤ M → step ((i : Nat), o) = some (.inl (((i + 1 : Nat) : Int), o ++ f (l.getD i d))))
  (he : ∀ o, step ((l.length : Nat), o) = some (.inr o)) : iter step (0, out) = some (out ++ l.flatMap f) := by
 have hlen : ∀ i, i ≤ l.length → ((l.take i).flatMap f).length ≤ i * K := by
  intro i
  induction i with
  | zero => intro _; simp
  | succ i ih =>
   intro hi
   rw [qbe d (by omega), List.flatMap_append, List.length_append, List.flatMap_cons, List.flatMap_nil, List.append_nil, Nat.add_mul, Nat.one_mul]
   have := ih (by omega)
   have := hK _ (qaC (d := d) (show i < l.length by omega))
   omega
 have key := qb0 (step := step) l.length (fun i => (((i : Nat) : Int), out ++ (l.take i).flatMap f)) (e := out ++ l.flatMap f) (fun i hi => by
  show step (((i : Nat) : Int), out ++ (l.take i).flatMap f) = _
  have h1 := hlen i (by omega)
  have h2 : i * K ≤ l.length * K := Nat.mul_le_mul_right _ (by omega)
  rw [hs i hi _ (by rw [List.length_append]; omega), qbe d hi, List.flatMap_append, List.append_assoc, List.flatMap_cons, List.flatMap_nil, List.append_nil]) (by
  show step (((l.length : Nat) : Int), out ++ (l.take l.length).flatMap f) = _
  rw [he, List.take_length])
 have e0 : ((((0 : Nat) : Int), out ++ (l.take 0).flatMap f) : Int × List B) = (0, out) := by simp
 rw [← e0]; exact key
theorem qtb {A B : Type} (f : A → B) (l : List A) : l.flatMap (fun x => [f x]) = l.map f := by
 induction l with
 | nil => rfl
 | cons x l ih => rw [List.flatMap_cons, ih]; rfl
theorem qjD {A B : Type} (l : List A) (d : A) (f : A → B) (M : Nat) {step : Int × List B → Option ((Int × List B) ⊕ List B)} (out : List B) (hM : out.length + l.length ≤ M)
  (hs : ∀ i, i < l.length → ∀ o : List B, o.length ≤ M → step ((i : Nat), o) = some (.inl (((i + 1 : Nat) : Int), o ++ [f (l.getD i d)])))
  (he : ∀ o, step ((l.length : Nat), o) = some (.inr o)) : iter step (0, out) = some (out ++ l.map f) := by
 rw [← qtb f l]
 exact qqy l d (fun x => [f x]) 1 M (fun _ _ => Nat.le_refl _) out (by omega) hs he
/-! ### Rows -/
abbrev kNet : Str := [110, 101, 116, 119, 111, 114, 107]
abbrev kNode : Str := [110, 111, 100, 101]
abbrev kSeg : Str := [115, 101, 103, 109, 101, 110, 116]
abbrev kPt : Str := [112, 111, 105, 110, 116]
abbrev kPort : Str := [112, 111, 114, 116]
abbrev kSta : Str := [115, 116, 97, 116, 105, 111, 110]
def qjE (s : Str) : List Str := [kNode, s]
def ptRow (p : Pt) : List Str := [kPt] ++ [p.1, p.2.1, p.2.2].map Lib.itoa
def qtc (n : List Str) (s : Seg) : List Str := [kSeg, s.1, n.getD s.2.1.toNat [], n.getD s.2.2.1.toNat []] ++ [s.2.2.2.1, s.2.2.2.2.1, s.2.2.2.2.2.1].map Lib.itoa
def qdp (n : List Str) (s : Seg) : List (List Str) := [qtc n s] ++ s.2.2.2.2.2.2.map ptRow
def qjF (n : List Str) (p : Port) : List Str := [kPort, p.1, n.getD p.2.1.toNat []] ++ [p.2.2].map Lib.itoa
def ql9 (n : List Str) (s : Stat) : List Str := [kSta, s.1, n.getD s.2.1.toNat []] ++ [s.2.2.1, s.2.2.2.1, s.2.2.2.2].map Lib.itoa
def qkh (n : Net) : List Str := [kNet] ++ [n.2.2.2.2.1, n.2.2.2.2.2].map Lib.itoa
def rowsN (n : Net) : List (List Str) := ((([qkh n] ++ n.1.map qjE) ++ n.2.1.flatMap (qdp n.1)) ++ n.2.2.1.map (qjF n.1)) ++ n.2.2.2.1.map (ql9 n.1)
/-! ### A valid network -/
structure Val (n : Net) : Prop where
 small : Small n
 form : ∀ l ∈ nmsOf n, ∀ s ∈ l, nameB s = true
 tw : twB n = false
 kn : knB n = true
 pr : prB n = true
theorem qma {n : Net} (h : qcF n = 0) : Val n := by
 unfold qcF at h
 cases h1 : limB n with
 | false => rw [h1] at h; simp at h
 | true => cases h2 : formB n with
  | false => rw [h1, h2] at h; simp at h
  | true => cases h3 : twB n with
   | true => rw [h1, h2, h3] at h; simp at h
   | false => cases h4 : knB n with
    | false => rw [h1, h2, h3, h4] at h; simp at h
    | true => cases h5 : prB n with
     | false => rw [h1, h2, h3, h4, h5] at h; simp at h
     | true => exact ⟨(qiE n).1 h1, fun l hl s hs => List.all_eq_true.1 (List.all_eq_true.1 h2 l hl) s hs, h3, h4, h5⟩
theorem qgs {lo hi x : Int} : rg lo hi x = true ↔ lo ≤ x ∧ x ≤ hi := by
 unfold rg
 rw [Bool.and_eq_true, decide_eq_true_eq, decide_eq_true_eq]
theorem qn1 {n : Net} {k : Int} : kn n k = true ↔ 0 ≤ k ∧ k < (n.1.length : Int) := by
 unfold kn
 rw [Bool.and_eq_true, decide_eq_true_eq, decide_eq_true_eq]
structure SegV (m : Nat) (s : Seg) : Prop where
 f : 0 ≤ s.2.1 ∧ s.2.1 < m
 t : 0 ≤ s.2.2.1 ∧ s.2.2.1 < m
 cap : 1 ≤ s.2.2.2.1 ∧ s.2.2.2.1 ≤ 1000000
 res : 0 ≤ s.2.2.2.2.1 ∧ s.2.2.2.2.1 ≤ 1000
 wav : 0 ≤ s.2.2.2.2.2.1 ∧ s.2.2.2.2.2.1 ≤ 100000
 l2 : 2 ≤ s.2.2.2.2.2.2.length ∧ s.2.2.2.2.2.2.length ≤ 8
 pts : ∀ p ∈ s.2.2.2.2.2.2, (0 ≤ p.1 ∧ p.1 ≤ 1000000) ∧ (-500 ≤ p.2.1 ∧ p.2.1 ≤ 5000) ∧ (0 ≤ p.2.2 ∧ p.2.2 ≤ 100000000)
theorem qrs {s : Seg} (h : pipeB s = true) (hc : s.2.2.2.1 ≤ 1000000) : ∀ p ∈ s.2.2.2.2.2.2, (0 ≤ p.1 ∧ p.1 ≤ 1000000) ∧ (-500 ≤ p.2.1 ∧ p.2.1 ≤ 5000) ∧ (0 ≤ p.2.2 ∧ p.2.2 ≤ 100000000) := by
 unfold pipeB at h
 simp only [Bool.and_eq_true, decide_eq_true_eq] at h
 obtain ⟨_, hp, h0, hl⟩ := h
 generalize s.2.2.2.2.2.2 = l at hp h0 hl ⊢
 have hp' := qhF.1 hp
 have inc : ∀ j, ∀ i, i ≤ j → j < l.length → (l.getD i pt0).1 ≤ (l.getD j pt0).1 := by
  intro j
  induction j with
  | zero => intro i hi _; rw [Nat.le_zero.1 hi]; exact Int.le_refl _
  | succ j ih =>
   intro i hi hj
   rcases Nat.lt_or_ge i (j + 1) with h1 | h1
   ·have a := ih i (by omega) (by omega)
    have b := hp' (j + 1) hj
    unfold ptB at b
    simp only [Bool.and_eq_true, Bool.or_eq_true, decide_eq_true_eq] at b
    have c := b.2.2
    rcases c with c | c
    ·simp at c
    ·rw [Nat.add_sub_cancel] at c; omega
   ·rw [show i = j + 1 by omega]; exact Int.le_refl _
 intro p hpm
 obtain ⟨k, hk, rfl⟩ := qrV pt0 hpm
 have b := hp' k hk
 unfold ptB at b
 simp only [Bool.and_eq_true] at b
 have b1 := qgs.1 b.1
 have b2 := qgs.1 b.2.1
 have c1 := inc k 0 (Nat.zero_le _) hk
 have c2 := inc (l.length - 1) k (by omega) (by omega)
 exact ⟨⟨by omega, by omega⟩, b1, b2⟩
theorem Val.seg {n : Net} (h : Val n) {s : Seg} (hs : s ∈ n.2.1) : SegV n.1.length s := by
 have hp := h.pr
 unfold prB at hp
 simp only [Bool.and_eq_true, List.all_eq_true] at hp
 have h1 := hp.1 s hs
 have hk := h.kn
 unfold knB at hk
 simp only [Bool.and_eq_true, List.all_eq_true] at hk
 have h2 := hk.1 s hs
 have h3 := h1
 unfold pipeB at h3
 simp only [Bool.and_eq_true] at h3
 have c := qgs.1 h3.1.2.1
 exact ⟨qn1.1 h2.1, qn1.1 h2.2, c, qgs.1 h3.1.2.2.1, qgs.1 h3.1.2.2.2, h.small.pt s hs, qrs h1 c.2⟩
theorem Val.port {n : Net} (h : Val n) {p : Port} (hs : p ∈ n.2.2.1) : (0 ≤ p.2.1 ∧ p.2.1 < n.1.length) ∧ (0 ≤ p.2.2 ∧ p.2.2 ≤ 100000000) := by
 have hp := h.pr
 unfold prB at hp
 simp only [Bool.and_eq_true, List.all_eq_true] at hp
 have hk := h.kn
 unfold knB at hk
 simp only [Bool.and_eq_true, List.all_eq_true] at hk
 exact ⟨qn1.1 (hk.2.1 p hs), qgs.1 (hp.2.1 p hs)⟩
theorem Val.stat {n : Net} (h : Val n) {s : Stat} (hs : s ∈ n.2.2.2.1) : (0 ≤ s.2.1 ∧ s.2.1 < n.1.length) ∧ (0 ≤ s.2.2.1 ∧ s.2.2.1 ≤ 100000000) ∧ (0 ≤ s.2.2.2.1 ∧ s.2.2.2.1 ≤ 100000) ∧ (0 ≤ s.2.2.2.2 ∧ s.2.2.2.2 ≤ 100000000) := by
 have hp := h.pr
 unfold prB at hp
 simp only [Bool.and_eq_true, List.all_eq_true] at hp
 have hk := h.kn
 unfold knB at hk
 simp only [Bool.and_eq_true, List.all_eq_true] at hk
 have h1 := hp.2.2.1 s hs
 unfold stB at h1
 simp only [Bool.and_eq_true] at h1
 exact ⟨qn1.1 (hk.2.2 s hs), qgs.1 h1.1, qgs.1 h1.2.1, qgs.1 h1.2.2⟩
theorem Val.two {n : Net} (h : Val n) : (-100000 ≤ n.2.2.2.2.1 ∧ n.2.2.2.2.1 ≤ 100000000) ∧ (0 ≤ n.2.2.2.2.2 ∧ n.2.2.2.2.2 ≤ 100) := by
 have hp := h.pr
 unfold prB at hp
 simp only [Bool.and_eq_true] at hp
 exact ⟨qgs.1 hp.2.2.2.1, qgs.1 hp.2.2.2.2⟩
end Go.Proofs.YtpgigbdefbeagaaGreatDoor
namespace Go.Proofs.YtpgigbdefbeagaaGreatDoor
open Go Go.Sq
/-! ### Rows are proper, and not long -/
theorem kw : wordB kNet = true ∧ wordB kNode = true ∧ wordB kSeg = true ∧ wordB kPt = true ∧ wordB kPort = true ∧ wordB kSta = true := by decide +kernel
theorem qoH {k : Str} {names : List Str} {nums : List Int} (hk : wordB k = true) (h0 : (k.headD 0 == 35) = false) (hn : ∀ x ∈ names, nameB x = true) (hl : names.length + nums.length ≤ 15) : qa7 ((k :: names) ++ nums.map Lib.itoa) = true := by
 unfold qa7
 rw [Nat.ble_eq_true_of_le (by simp; omega)]
 have h1 : ((k :: names) ++ nums.map Lib.itoa).all wordB = true := by
  rw [List.all_eq_true]
  intro x hx
  rcases List.mem_append.1 hx with hx | hx
  ·rcases List.mem_cons.1 hx with rfl | hx
   ·exact hk
   ·exact (ql4 (hn x hx)).1
  ·obtain ⟨m, _, rfl⟩ := List.mem_map.1 hx
   exact qoG m
 rw [h1]
 show (!(k.headD 0 == 35)) = true
 rw [h0]; rfl
theorem qsE {k : Str} {names : List Str} {nums : List Int} (hk : k.length ≤ 12) (hn : ∀ x ∈ names, nameB x = true) (hm : ∀ x ∈ nums, x.natAbs < 1000000000) : ∀ x ∈ (k :: names) ++ nums.map Lib.itoa, x.length ≤ 12 := by
 intro x hx
 rcases List.mem_append.1 hx with hx | hx
 ·rcases List.mem_cons.1 hx with rfl | hx
  ·exact hk
  ·exact (ql4 (hn x hx)).2
 ·obtain ⟨m, hm', rfl⟩ := List.mem_map.1 hx
  have := qqx (hm m hm'); omega
structure RowP (w : List Str) : Prop where
 pr : qa7 w = true
 ln : ∀ x ∈ w, x.length ≤ 12
 sz : w.length ≤ 7
theorem rowP {k : Str} {names : List Str} {nums : List Int} (hk : wordB k = true) (h0 : (k.headD 0 == 35) = false) (hkl : k.length ≤ 12) (hn : ∀ x ∈ names, nameB x = true) (hm : ∀ x ∈ nums, x.natAbs < 1000000000) (hl : names.length + nums.length ≤ 6) : RowP ((k :: names) ++ nums.map Lib.itoa) :=
 ⟨qoH hk h0 hn (by omega), qsE hkl hn hm, by simp; omega⟩
theorem Val.node {n : Net} (h : Val n) {k : Int} (hk : 0 ≤ k ∧ k < n.1.length) : nameB (n.1.getD k.toNat []) = true := h.form n.1 (by simp [nmsOf]) _ (qaC (by omega))
theorem Val.rows {n : Net} (h : Val n) : ∀ w ∈ rowsN n, RowP w := by
 obtain ⟨w1, w2, w3, w4, w5, w6⟩ := kw
 intro w hw
 unfold rowsN at hw
 simp only [List.mem_append, List.mem_singleton, List.mem_map, List.mem_flatMap] at hw
 rcases hw with (((rfl | ⟨s, hs, rfl⟩) | ⟨s, hs, hw⟩) | ⟨p, hp, rfl⟩) | ⟨s, hs, rfl⟩
 ·have := h.two
  exact rowP (names := []) w1 (by decide) (by decide) (fun x hx => by cases hx) (fun x hx => by simp at hx; rcases hx with rfl | rfl <;> omega) (by simp)
 ·exact rowP (names := [s]) (nums := []) w2 (by decide) (by decide) (fun x hx => by rw [List.mem_singleton.1 hx]; exact h.form n.1 (by simp [nmsOf]) s hs) (fun x hx => by cases hx) (by simp)
 ·have hv := h.seg hs
  unfold qdp at hw
  rcases List.mem_append.1 hw with hw | hw
  ·rw [List.mem_singleton.1 hw]
   have c1 := hv.cap; have c2 := hv.res; have c3 := hv.wav
   exact rowP (names := [s.1, n.1.getD s.2.1.toNat [], n.1.getD s.2.2.1.toNat []]) w3 (by decide) (by decide) (fun x hx => by
    simp only [List.mem_cons, List.not_mem_nil, or_false] at hx
    rcases hx with rfl | rfl | rfl
    ·exact h.form (n.2.1.map (·.1)) (by simp [nmsOf]) _ (List.mem_map_of_mem hs)
    ·exact h.node hv.f
    ·exact h.node hv.t) (fun x hx => by
    simp only [List.mem_cons, List.not_mem_nil, or_false] at hx
    rcases hx with rfl | rfl | rfl <;> omega) (by simp)
  ·obtain ⟨p, hp, rfl⟩ := List.mem_map.1 hw
   have c := hv.pts p hp
   exact rowP (names := []) w4 (by decide) (by decide) (fun x hx => by cases hx) (fun x hx => by
    simp only [List.mem_cons, List.not_mem_nil, or_false] at hx
    rcases hx with rfl | rfl | rfl <;> omega) (by simp)
 ·have c := h.port hp
  exact rowP (names := [p.1, n.1.getD p.2.1.toNat []]) w5 (by decide) (by decide) (fun x hx => by
   simp only [List.mem_cons, List.not_mem_nil, or_false] at hx
   rcases hx with rfl | rfl
   ·exact h.form (n.2.2.1.map (·.1)) (by simp [nmsOf]) _ (List.mem_map_of_mem hp)
   ·exact h.node c.1) (fun x hx => by rw [List.mem_singleton.1 hx]; omega) (by simp)
 ·have c := h.stat hs
  exact rowP (names := [s.1, n.1.getD s.2.1.toNat []]) w6 (by decide) (by decide) (fun x hx => by
   simp only [List.mem_cons, List.not_mem_nil, or_false] at hx
   rcases hx with rfl | rfl
   ·exact h.form (n.2.2.2.1.map (·.1)) (by simp [nmsOf]) _ (List.mem_map_of_mem hs)
   ·exact h.node c.1) (fun x hx => by
   simp only [List.mem_cons, List.not_mem_nil, or_false] at hx
   rcases hx with rfl | rfl | rfl <;> omega) (by simp)
theorem qsF {l : List (List Str)} (h : ∀ w ∈ l, RowP w) : BJ l := fun w hw => ⟨by have := (h w hw).sz; omega, fun s hs => by have := (h w hw).ln s hs; omega⟩
theorem qqz {w : List Str} (h : RowP w) : szW w ≤ 91 := by
 have h1 := qqj (w := w) (n := 12) h.ln
 have h2 := h.sz
 unfold szW
 omega
theorem qqA {A B : Type} {f : A → List B} {K : Nat} {l : List A} (h : ∀ x ∈ l, (f x).length ≤ K) : (l.flatMap f).length ≤ l.length * K := by
 induction l with
 | nil => simp
 | cons x l ih =>
  rw [List.flatMap_cons, List.length_append, List.length_cons, Nat.add_mul, Nat.one_mul]
  have := h x (by simp)
  have := ih fun y hy => h y (by simp [hy])
  omega
theorem Val.count {n : Net} (h : Val n) : (rowsN n).length ≤ 1 + n.1.length + n.2.1.length * 9 + n.2.2.1.length + n.2.2.2.1.length := by
 unfold rowsN
 simp only [List.length_append, List.length_map, List.length_singleton]
 have := qqA (f := qdp n.1) (K := 9) (l := n.2.1) (fun s hs => by unfold qdp; have := (h.seg hs).l2; simp; omega)
 omega
/-! ### Format -/
theorem inB_i {k : Int} {m : Nat} (h : 0 ≤ k ∧ k < m) : inB k m = true := qdW.2 ⟨h.1, h.2⟩
end Go.Proofs.YtpgigbdefbeagaaGreatDoor
