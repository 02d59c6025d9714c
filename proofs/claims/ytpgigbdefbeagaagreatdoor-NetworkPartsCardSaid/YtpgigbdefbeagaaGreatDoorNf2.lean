/- Networks as rows of words. No condition. -/
import Derived.Test.YtpgigbdefbeagaaGreatDoorPr8
namespace Go.Proofs.YtpgigbdefbeagaaGreatDoor
open Go Go.Sq
/-! ### Numerals, with signs -/
theorem qmM (n : Int) : wordB (Lib.itoa n) = true := by
 by_cases h : n < 0
 ·have h2 := qkm (n := (n.natAbs : Int)) (by omega)
  rw [qjA (by omega), Int.toNat_natCast] at h2
  unfold Lib.itoa
  rw [if_pos h]
  unfold wordB at h2 ⊢
  rw [Bool.and_eq_true] at h2
  rw [List.all_cons, h2.1]; rfl
 ·exact qkm (by omega)
theorem qos {n : Int} (h : n.natAbs < 1000000000) : (Lib.itoa n).length ≤ 10 := by
 have h2 := qor 8 n.natAbs (by omega)
 unfold Lib.itoa
 split
 ·rw [List.length_cons]; omega
 ·rw [show n.toNat = n.natAbs by omega]; omega
theorem qpX {n : Int} (h : i64P n) : itoaT n = some (Lib.itoa n) := by
 unfold itoaT
 rw [dec_t h.1, dec_t h.2]; rfl
/-! ### Loops that gather -/
theorem qot {A B : Type} (l : List A) (d : A) (f : A → List B) (K M : Nat) (hK : ∀ x ∈ l, (f x).length ≤ K) {step : Int × List B → Option ((Int × List B) ⊕ List B)} (out : List B) (hM : out.length + l.length * K ≤ M)
  (hs : ∀ i, i < l.length → ∀ o : List B, o.length ≤ M → step ((i : Nat), o) = some (.inl (((i + 1 : Nat) : Int), o ++ f (l.getD i d))))
  (he : ∀ o, step ((l.length : Nat), o) = some (.inr o)) : iter step (0, out) = some (out ++ l.flatMap f) := by
 have hlen : ∀ i, i ≤ l.length → ((l.take i).flatMap f).length ≤ i * K := by
  intro i
  induction i with
  | zero => intro _; simp
  | succ i ih =>
   intro hi
   rw [qbu d (by omega), List.flatMap_append, List.length_append, List.flatMap_cons, List.flatMap_nil, List.append_nil, Nat.add_mul, Nat.one_mul]
   have := ih (by omega)
   have := hK _ (qaV (d := d) (show i < l.length by omega))
   omega
 have key := qc0 (step := step) l.length (fun i => (((i : Nat) : Int), out ++ (l.take i).flatMap f)) (e := out ++ l.flatMap f) (fun i hi => by
  show step (((i : Nat) : Int), out ++ (l.take i).flatMap f) = _
  have h1 := hlen i (by omega)
  have h2 : i * K ≤ l.length * K := Nat.mul_le_mul_right _ (by omega)
  rw [hs i hi _ (by rw [List.length_append]; omega), qbu d hi, List.flatMap_append, List.append_assoc, List.flatMap_cons, List.flatMap_nil, List.append_nil]) (by
  show step (((l.length : Nat) : Int), out ++ (l.take l.length).flatMap f) = _
  rw [he, List.take_length])
 have e0 : ((((0 : Nat) : Int), out ++ (l.take 0).flatMap f) : Int × List B) = (0, out) := by simp
 rw [← e0]; exact key
theorem qqt {A B : Type} (f : A → B) (l : List A) : l.flatMap (fun x => [f x]) = l.map f := by
 induction l with
 | nil => rfl
 | cons x l ih => rw [List.flatMap_cons, ih]; rfl
theorem qiu {A B : Type} (l : List A) (d : A) (f : A → B) (M : Nat) {step : Int × List B → Option ((Int × List B) ⊕ List B)} (out : List B) (hM : out.length + l.length ≤ M)
  (hs : ∀ i, i < l.length → ∀ o : List B, o.length ≤ M → step ((i : Nat), o) = some (.inl (((i + 1 : Nat) : Int), o ++ [f (l.getD i d)])))
  (he : ∀ o, step ((l.length : Nat), o) = some (.inr o)) : iter step (0, out) = some (out ++ l.map f) := by
 rw [← qqt f l]
 exact qot l d (fun x => [f x]) 1 M (fun _ _ => Nat.le_refl _) out (by omega) hs he
/-! ### Rows -/
abbrev kNet : Str := [110, 101, 116, 119, 111, 114, 107]
abbrev kNode : Str := [110, 111, 100, 101]
abbrev kSeg : Str := [115, 101, 103, 109, 101, 110, 116]
abbrev kPt : Str := [112, 111, 105, 110, 116]
abbrev kPort : Str := [112, 111, 114, 116]
abbrev kSta : Str := [115, 116, 97, 116, 105, 111, 110]
def qjB (s : Str) : List Str := [kNode, s]
def ptRow (p : Pt) : List Str := [kPt] ++ [p.1, p.2.1, p.2.2].map Lib.itoa
def qqu (n : List Str) (s : Seg) : List Str := [kSeg, s.1, n.getD s.2.1.toNat [], n.getD s.2.2.1.toNat []] ++ [s.2.2.2.1, s.2.2.2.2.1, s.2.2.2.2.2.1].map Lib.itoa
def qcX (n : List Str) (s : Seg) : List (List Str) := [qqu n s] ++ s.2.2.2.2.2.2.map ptRow
def qbU (n : List Str) (p : Port) : List Str := [kPort, p.1, n.getD p.2.1.toNat []] ++ [p.2.2].map Lib.itoa
def qhb (n : List Str) (s : Stat) : List Str := [kSta, s.1, n.getD s.2.1.toNat []] ++ [s.2.2.1, s.2.2.2.1, s.2.2.2.2].map Lib.itoa
def qkn (n : Net) : List Str := [kNet] ++ [n.2.2.2.2.1, n.2.2.2.2.2].map Lib.itoa
def rowsN (n : Net) : List (List Str) := ((([qkn n] ++ n.1.map qjB) ++ n.2.1.flatMap (qcX n.1)) ++ n.2.2.1.map (qbU n.1)) ++ n.2.2.2.1.map (qhb n.1)
theorem qko (names : List Str) (numbers : List Int) (h1 : names.length + numbers.length ≤ 1000) (h2 : ∀ x ∈ numbers, i64P x) : qbI names numbers = some (names ++ numbers.map Lib.itoa) := by
 unfold qbI qa6
 rw [gd_t (qbG (by omega)), List.nil_append, Option.bind_some]
 have key := qiu numbers 0 Lib.itoa 1000 (step := fun x => qbz numbers x.1 x.2) names (by omega) (fun i hi o ho => by
  show qbz numbers ((i : Nat) : Int) o = _
  unfold qbz
  rw [dec_t (by omega), cond_true, gd_t (inB_t hi), Int.toNat_natCast, qpX (h2 _ (qaV hi)), Option.bind_some, gd_t (qbG (by omega)), w1 hi (by omega)]) (fun o => by
  show qbz numbers ((numbers.length : Nat) : Int) o = _
  unfold qbz
  rw [dec_f (by omega)]; rfl)
 rw [key]; rfl
/-! ### A valid network -/
structure Val (n : Net) : Prop where
 small : Small n
 form : ∀ l ∈ nmsOf n, ∀ s ∈ l, nameB s = true
 tw : twB n = false
 kn : knB n = true
 pr : prB n = true
theorem ql8 {n : Net} (h : qe5 n = 0) : Val n := by
 unfold qe5 at h
 cases h1 : limB n with
 | false => rw [h1] at h; simp at h
 | true => cases h2 : formB n with
  | false => rw [h1, h2] at h; simp at h
  | true => cases h3 : twB n with
   | true => rw [h1, h2, h3] at h; simp at h
   | false => cases h4 : knB n with
    | false => rw [h1, h2, h3, h4] at h; simp at h
    | true => cases h5 : prB n with
     | false => rw [h1, h2, h3, h4, h5] at h; simp at h
     | true => exact ⟨(qhv n).1 h1, fun l hl s hs => List.all_eq_true.1 (List.all_eq_true.1 h2 l hl) s hs, h3, h4, h5⟩
theorem qfE {lo hi x : Int} : rg lo hi x = true ↔ lo ≤ x ∧ x ≤ hi := by
 unfold rg
 rw [Bool.and_eq_true, decide_eq_true_eq, decide_eq_true_eq]
theorem ql9 {n : Net} {k : Int} : kn n k = true ↔ 0 ≤ k ∧ k < (n.1.length : Int) := by
 unfold kn
 rw [Bool.and_eq_true, decide_eq_true_eq, decide_eq_true_eq]
structure SegV (m : Nat) (s : Seg) : Prop where
 f : 0 ≤ s.2.1 ∧ s.2.1 < m
 t : 0 ≤ s.2.2.1 ∧ s.2.2.1 < m
 cap : 1 ≤ s.2.2.2.1 ∧ s.2.2.2.1 ≤ 1000000
 res : 0 ≤ s.2.2.2.2.1 ∧ s.2.2.2.2.1 ≤ 1000
 wav : 0 ≤ s.2.2.2.2.2.1 ∧ s.2.2.2.2.2.1 ≤ 100000
 l2 : 2 ≤ s.2.2.2.2.2.2.length ∧ s.2.2.2.2.2.2.length ≤ 8
 pts : ∀ p ∈ s.2.2.2.2.2.2, (0 ≤ p.1 ∧ p.1 ≤ 1000000) ∧ (-500 ≤ p.2.1 ∧ p.2.1 ≤ 5000) ∧ (0 ≤ p.2.2 ∧ p.2.2 ≤ 100000000)
theorem qo9 {s : Seg} (h : pipeB s = true) (hc : s.2.2.2.1 ≤ 1000000) : ∀ p ∈ s.2.2.2.2.2.2, (0 ≤ p.1 ∧ p.1 ≤ 1000000) ∧ (-500 ≤ p.2.1 ∧ p.2.1 ≤ 5000) ∧ (0 ≤ p.2.2 ∧ p.2.2 ≤ 100000000) := by
 unfold pipeB at h
 simp only [Bool.and_eq_true, decide_eq_true_eq] at h
 obtain ⟨_, hp, h0, hl⟩ := h
 generalize s.2.2.2.2.2.2 = l at hp h0 hl ⊢
 have hp' := qkh.1 hp
 have inc : ∀ j, ∀ i, i ≤ j → j < l.length → (l.getD i pt0).1 ≤ (l.getD j pt0).1 := by
  intro j
  induction j with
  | zero => intro i hi _; rw [Nat.le_zero.1 hi]; exact Int.le_refl _
  | succ j ih =>
   intro i hi hj
   rcases Nat.lt_or_ge i (j + 1) with h1 | h1
   ·have a := ih i (by omega) (by omega)
    have b := hp' (j + 1) hj
    unfold ptB at b
    simp only [Bool.and_eq_true, Bool.or_eq_true, decide_eq_true_eq] at b
    have c := b.2.2
    rcases c with c | c
    ·simp at c
    ·rw [Nat.add_sub_cancel] at c; omega
   ·rw [show i = j + 1 by omega]; exact Int.le_refl _
 intro p hpm
 obtain ⟨k, hk, rfl⟩ := qps pt0 hpm
 have b := hp' k hk
 unfold ptB at b
 simp only [Bool.and_eq_true] at b
 have b1 := qfE.1 b.1
 have b2 := qfE.1 b.2.1
 have c1 := inc k 0 (Nat.zero_le _) hk
 have c2 := inc (l.length - 1) k (by omega) (by omega)
 exact ⟨⟨by omega, by omega⟩, b1, b2⟩
theorem Val.seg {n : Net} (h : Val n) {s : Seg} (hs : s ∈ n.2.1) : SegV n.1.length s := by
 have hp := h.pr
 unfold prB at hp
 simp only [Bool.and_eq_true, List.all_eq_true] at hp
 have h1 := hp.1 s hs
 have hk := h.kn
 unfold knB at hk
 simp only [Bool.and_eq_true, List.all_eq_true] at hk
 have h2 := hk.1 s hs
 have h3 := h1
 unfold pipeB at h3
 simp only [Bool.and_eq_true] at h3
 have c := qfE.1 h3.1.2.1
 exact ⟨ql9.1 h2.1, ql9.1 h2.2, c, qfE.1 h3.1.2.2.1, qfE.1 h3.1.2.2.2, h.small.pt s hs, qo9 h1 c.2⟩
theorem Val.port {n : Net} (h : Val n) {p : Port} (hs : p ∈ n.2.2.1) : (0 ≤ p.2.1 ∧ p.2.1 < n.1.length) ∧ (0 ≤ p.2.2 ∧ p.2.2 ≤ 100000000) := by
 have hp := h.pr
 unfold prB at hp
 simp only [Bool.and_eq_true, List.all_eq_true] at hp
 have hk := h.kn
 unfold knB at hk
 simp only [Bool.and_eq_true, List.all_eq_true] at hk
 exact ⟨ql9.1 (hk.2.1 p hs), qfE.1 (hp.2.1 p hs)⟩
theorem Val.stat {n : Net} (h : Val n) {s : Stat} (hs : s ∈ n.2.2.2.1) : (0 ≤ s.2.1 ∧ s.2.1 < n.1.length) ∧ (0 ≤ s.2.2.1 ∧ s.2.2.1 ≤ 100000000) ∧ (0 ≤ s.2.2.2.1 ∧ s.2.2.2.1 ≤ 100000) ∧ (0 ≤ s.2.2.2.2 ∧ s.2.2.2.2 ≤ 100000000) := by
 have hp := h.pr
 unfold prB at hp
 simp only [Bool.and_eq_true, List.all_eq_true] at hp
 have hk := h.kn
 unfold knB at hk
 simp only [Bool.and_eq_true, List.all_eq_true] at hk
 have h1 := hp.2.2.1 s hs
 unfold stB at h1
 simp only [Bool.and_eq_true] at h1
 exact ⟨ql9.1 (hk.2.2 s hs), qfE.1 h1.1, qfE.1 h1.2.1, qfE.1 h1.2.2⟩
theorem Val.two {n : Net} (h : Val n) : (-100000 ≤ n.2.2.2.2.1 ∧ n.2.2.2.2.1 ≤ 100000000) ∧ (0 ≤ n.2.2.2.2.2 ∧ n.2.2.2.2.2 ≤ 100) := by
 have hp := h.pr
 unfold prB at hp
 simp only [Bool.and_eq_true] at hp
 exact ⟨qfE.1 hp.2.2.2.1, qfE.1 hp.2.2.2.2⟩
end Go.Proofs.YtpgigbdefbeagaaGreatDoor
namespace Go.Proofs.YtpgigbdefbeagaaGreatDoor
open Go Go.Sq
/-! ### Rows are proper, and not long -/
theorem kw : wordB kNet = true ∧ wordB kNode = true ∧ wordB kSeg = true ∧ wordB kPt = true ∧ wordB kPort = true ∧ wordB kSta = true := by decide +kernel
theorem qmN {k : Str} {names : List Str} {nums : List Int} (hk : wordB k = true) (h0 : (k.headD 0 == 35) = false) (hn : ∀ x ∈ names, nameB x = true) (hl : names.length + nums.length ≤ 15) : qbC ((k :: names) ++ nums.map Lib.itoa) = true := by
 unfold qbC
 rw [Nat.ble_eq_true_of_le (by simp; omega)]
 have h1 : ((k :: names) ++ nums.map Lib.itoa).all wordB = true := by
  rw [List.all_eq_true]
  intro x hx
  rcases List.mem_append.1 hx with hx | hx
  ·rcases List.mem_cons.1 hx with rfl | hx
   ·exact hk
   ·exact (qgM (hn x hx)).1
  ·obtain ⟨m, _, rfl⟩ := List.mem_map.1 hx
   exact qmM m
 rw [h1]
 show (!(k.headD 0 == 35)) = true
 rw [h0]; rfl
theorem qpY {k : Str} {names : List Str} {nums : List Int} (hk : k.length ≤ 12) (hn : ∀ x ∈ names, nameB x = true) (hm : ∀ x ∈ nums, x.natAbs < 1000000000) : ∀ x ∈ (k :: names) ++ nums.map Lib.itoa, x.length ≤ 12 := by
 intro x hx
 rcases List.mem_append.1 hx with hx | hx
 ·rcases List.mem_cons.1 hx with rfl | hx
  ·exact hk
  ·exact (qgM (hn x hx)).2
 ·obtain ⟨m, hm', rfl⟩ := List.mem_map.1 hx
  have := qos (hm m hm'); omega
structure RowP (w : List Str) : Prop where
 pr : qbC w = true
 ln : ∀ x ∈ w, x.length ≤ 12
 sz : w.length ≤ 7
theorem rowP {k : Str} {names : List Str} {nums : List Int} (hk : wordB k = true) (h0 : (k.headD 0 == 35) = false) (hkl : k.length ≤ 12) (hn : ∀ x ∈ names, nameB x = true) (hm : ∀ x ∈ nums, x.natAbs < 1000000000) (hl : names.length + nums.length ≤ 6) : RowP ((k :: names) ++ nums.map Lib.itoa) :=
 ⟨qmN hk h0 hn (by omega), qpY hkl hn hm, by simp; omega⟩
theorem Val.node {n : Net} (h : Val n) {k : Int} (hk : 0 ≤ k ∧ k < n.1.length) : nameB (n.1.getD k.toNat []) = true := h.form n.1 (by simp [nmsOf]) _ (qaV (by omega))
theorem Val.rows {n : Net} (h : Val n) : ∀ w ∈ rowsN n, RowP w := by
 obtain ⟨w1, w2, w3, w4, w5, w6⟩ := kw
 intro w hw
 unfold rowsN at hw
 simp only [List.mem_append, List.mem_singleton, List.mem_map, List.mem_flatMap] at hw
 rcases hw with (((rfl | ⟨s, hs, rfl⟩) | ⟨s, hs, hw⟩) | ⟨p, hp, rfl⟩) | ⟨s, hs, rfl⟩
 ·have := h.two
  exact rowP (names := []) w1 (by decide) (by decide) (fun x hx => by cases hx) (fun x hx => by simp at hx; rcases hx with rfl | rfl <;> omega) (by simp)
 ·exact rowP (names := [s]) (nums := []) w2 (by decide) (by decide) (fun x hx => by rw [List.mem_singleton.1 hx]; exact h.form n.1 (by simp [nmsOf]) s hs) (fun x hx => by cases hx) (by simp)
 ·have hv := h.seg hs
  unfold qcX at hw
  rcases List.mem_append.1 hw with hw | hw
  ·rw [List.mem_singleton.1 hw]
   have c1 := hv.cap; have c2 := hv.res; have c3 := hv.wav
   exact rowP (names := [s.1, n.1.getD s.2.1.toNat [], n.1.getD s.2.2.1.toNat []]) w3 (by decide) (by decide) (fun x hx => by
    simp only [List.mem_cons, List.not_mem_nil, or_false] at hx
    rcases hx with rfl | rfl | rfl
    ·exact h.form (n.2.1.map (·.1)) (by simp [nmsOf]) _ (List.mem_map_of_mem hs)
    ·exact h.node hv.f
    ·exact h.node hv.t) (fun x hx => by
    simp only [List.mem_cons, List.not_mem_nil, or_false] at hx
    rcases hx with rfl | rfl | rfl <;> omega) (by simp)
  ·obtain ⟨p, hp, rfl⟩ := List.mem_map.1 hw
   have c := hv.pts p hp
   exact rowP (names := []) w4 (by decide) (by decide) (fun x hx => by cases hx) (fun x hx => by
    simp only [List.mem_cons, List.not_mem_nil, or_false] at hx
    rcases hx with rfl | rfl | rfl <;> omega) (by simp)
 ·have c := h.port hp
  exact rowP (names := [p.1, n.1.getD p.2.1.toNat []]) w5 (by decide) (by decide) (fun x hx => by
   simp only [List.mem_cons, List.not_mem_nil, or_false] at hx
   rcases hx with rfl | rfl
   ·exact h.form (n.2.2.1.map (·.1)) (by simp [nmsOf]) _ (List.mem_map_of_mem hp)
   ·exact h.node c.1) (fun x hx => by rw [List.mem_singleton.1 hx]; omega) (by simp)
 ·have c := h.stat hs
  exact rowP (names := [s.1, n.1.getD s.2.1.toNat []]) w6 (by decide) (by decide) (fun x hx => by
   simp only [List.mem_cons, List.not_mem_nil, or_false] at hx
   rcases hx with rfl | rfl
   ·exact h.form (n.2.2.2.1.map (·.1)) (by simp [nmsOf]) _ (List.mem_map_of_mem hs)
   ·exact h.node c.1) (fun x hx => by
   simp only [List.mem_cons, List.not_mem_nil, or_false] at hx
   rcases hx with rfl | rfl | rfl <;> omega) (by simp)
theorem qpZ {l : List (List Str)} (h : ∀ w ∈ l, RowP w) : BJ l := fun w hw => ⟨by have := (h w hw).sz; omega, fun s hs => by have := (h w hw).ln s hs; omega⟩
theorem qp0 {w : List Str} (h : RowP w) : szW w ≤ 91 := by
 have h1 := qoo (w := w) (n := 12) h.ln
 have h2 := h.sz
 unfold szW
 omega
theorem qou {A B : Type} {f : A → List B} {K : Nat} {l : List A} (h : ∀ x ∈ l, (f x).length ≤ K) : (l.flatMap f).length ≤ l.length * K := by
 induction l with
 | nil => simp
 | cons x l ih =>
  rw [List.flatMap_cons, List.length_append, List.length_cons, Nat.add_mul, Nat.one_mul]
  have := h x (by simp)
  have := ih fun y hy => h y (by simp [hy])
  omega
theorem Val.count {n : Net} (h : Val n) : (rowsN n).length ≤ 1 + n.1.length + n.2.1.length * 9 + n.2.2.1.length + n.2.2.2.1.length := by
 unfold rowsN
 simp only [List.length_append, List.length_map, List.length_singleton]
 have := qou (f := qcX n.1) (K := 9) (l := n.2.1) (fun s hs => by unfold qcX; have := (h.seg hs).l2; simp; omega)
 omega
/-! ### Format -/
theorem qe6 {lo hi x : Int} (h : lo ≤ x ∧ x ≤ hi) (h1 : -9223372036854775808 ≤ lo) (h2 : hi ≤ 9223372036854775807) : i64P x := ⟨Int.le_trans h1 h.1, Int.le_trans h.2 h2⟩
theorem qp1 (n : Net) (i : Nat) (hv : ∀ p ∈ (n.2.1.getD i sg0).2.2.2.2.2.2, (0 ≤ p.1 ∧ p.1 ≤ 1000000) ∧ (-500 ≤ p.2.1 ∧ p.2.1 ≤ 5000) ∧ (0 ≤ p.2.2 ∧ p.2.2 ≤ 100000000)) (out : List (List Str)) (hl : out.length + (n.2.1.getD i sg0).2.2.2.2.2.2.length ≤ 1000) :
  iter (fun x2 => qaZ n (i : Nat) x2.1 x2.2) (0, out) = some (out ++ (n.2.1.getD i sg0).2.2.2.2.2.2.map ptRow) := by
 refine qiu (n.2.1.getD i sg0).2.2.2.2.2.2 pt0 ptRow 1000 out hl (fun j hj o ho => ?_) (fun o => ?_)
 ·have c := hv _ (qaV (d := pt0) hj)
  show qaZ n ((i : Nat) : Int) ((j : Nat) : Int) o = _
  unfold qaZ
  simp only [Int.toNat_natCast]
  rw [dec_t (show (j : Int) < ((n.2.1.getD i sg0).2.2.2.2.2.2.length : Int) by omega), cond_true, gd_t (inB_t hj)]
  rw [qko _ _ (by simp) (fun x hx => by
   simp only [List.mem_cons, List.not_mem_nil, or_false] at hx
   rcases hx with rfl | rfl | rfl
   ·exact qe6 c.1 (by decide) (by decide)
   ·exact qe6 c.2.1 (by decide) (by decide)
   ·exact qe6 c.2.2 (by decide) (by decide)), Option.bind_some, gd_t (qbG (by omega)), w1 hj (by omega)]
  rfl
 ·show qaZ n ((i : Nat) : Int) (((n.2.1.getD i sg0).2.2.2.2.2.2.length : Nat) : Int) o = _
  unfold qaZ
  simp only [Int.toNat_natCast]
  rw [dec_f (show ¬ ((((n.2.1.getD i sg0).2.2.2.2.2.2.length : Nat) : Int) < ((n.2.1.getD i sg0).2.2.2.2.2.2.length : Int)) by omega)]; rfl
theorem inB_i {k : Int} {m : Nat} (h : 0 ≤ k ∧ k < m) : inB k m = true := qej.2 ⟨h.1, h.2⟩
theorem qov {n : Net} (h0 : qe5 n = 0) : qbe n = some (qfN (rowsN n)) := by
 have h := ql8 h0
 have hs := h.small
 have b1 := hs.no; have b2 := hs.sg; have b3 := hs.po; have b4 := hs.st
 have e0 : qbO (n.1, (n.2.1, (n.2.2.1, (n.2.2.2.1, (n.2.2.2.2.1, n.2.2.2.2.2))))) = some 0 := (qll _).trans (congrArg some h0)
 have l0 : iter (fun x => qaY n x.1 x.2) (0, [qkn n]) = some ([qkn n] ++ n.1.map qjB) := by
  refine qiu n.1 [] qjB 1000 [qkn n] (by simp; omega) (fun i hi o ho => ?_) (fun o => ?_)
  ·show qaY n ((i : Nat) : Int) o = _
   unfold qaY
   rw [dec_t (by omega), cond_true, gd_t (inB_t hi), gd_t (qbG (by omega)), Int.toNat_natCast, w1 hi (by omega)]; rfl
  ·show qaY n ((n.1.length : Nat) : Int) o = _
   unfold qaY
   rw [dec_f (by omega)]; rfl
 have l1 : ∀ out : List (List Str), out.length ≤ 30 → iter (fun x => qa0 n x.1 x.2) (0, out) = some (out ++ n.2.1.flatMap (qcX n.1)) := by
  intro out ho0
  refine qot n.2.1 sg0 (qcX n.1) 9 900 (fun s hs => by unfold qcX; have := (h.seg hs).l2; simp; omega) out (by omega) (fun i hi o ho => ?_) (fun o => ?_)
  ·have hv := h.seg (qaV (d := sg0) hi)
   show qa0 n ((i : Nat) : Int) o = _
   unfold qa0
   simp only [Int.toNat_natCast]
   rw [dec_t (by omega), cond_true, gd_t (inB_t hi), gd_t (inB_i hv.f), gd_t (inB_i hv.t)]
   have c1 := hv.cap; have c2 := hv.res; have c3 := hv.wav; have c4 := hv.l2
   rw [qko _ _ (by simp) (fun x hx => by
    simp only [List.mem_cons, List.not_mem_nil, or_false] at hx
    rcases hx with rfl | rfl | rfl
    ·exact qe6 c1 (by decide) (by decide)
    ·exact qe6 c2 (by decide) (by decide)
    ·exact qe6 c3 (by decide) (by decide)), Option.bind_some, gd_t (qbG (by omega))]
   rw [qp1 n i hv.pts _ (by rw [List.length_append, List.length_singleton]; omega), Option.bind_some, w1 hi (by omega)]
   unfold qcX
   rw [List.append_assoc]; rfl
  ·show qa0 n ((n.2.1.length : Nat) : Int) o = _
   unfold qa0
   rw [dec_f (by omega)]; rfl
 have l3 : ∀ out : List (List Str), out.length ≤ 900 → iter (fun x => qa1 n x.1 x.2) (0, out) = some (out ++ n.2.2.1.map (qbU n.1)) := by
  intro out ho0
  refine qiu n.2.2.1 po0 (qbU n.1) 1000 out (by omega) (fun i hi o ho => ?_) (fun o => ?_)
  ·have hv := h.port (qaV (d := po0) hi)
   show qa1 n ((i : Nat) : Int) o = _
   unfold qa1
   simp only [Int.toNat_natCast]
   rw [dec_t (by omega), cond_true, gd_t (inB_t hi), gd_t (inB_i hv.1)]
   rw [qko _ _ (by simp) (fun x hx => by
    rw [List.mem_singleton.1 hx]
    exact qe6 hv.2 (by decide) (by decide)), Option.bind_some, gd_t (qbG (by omega)), w1 hi (by omega)]; rfl
  ·show qa1 n ((n.2.2.1.length : Nat) : Int) o = _
   unfold qa1
   rw [dec_f (by omega)]; rfl
 have l4 : ∀ out : List (List Str), out.length ≤ 950 → iter (fun x => qa2 n x.1 x.2) (0, out) = some (out ++ n.2.2.2.1.map (qhb n.1)) := by
  intro out ho0
  refine qiu n.2.2.2.1 sta0 (qhb n.1) 1000 out (by omega) (fun i hi o ho => ?_) (fun o => ?_)
  ·have hv := h.stat (qaV (d := sta0) hi)
   show qa2 n ((i : Nat) : Int) o = _
   unfold qa2
   simp only [Int.toNat_natCast]
   rw [dec_t (by omega), cond_true, gd_t (inB_t hi), gd_t (inB_i hv.1)]
   rw [qko _ _ (by simp) (fun x hx => by
    simp only [List.mem_cons, List.not_mem_nil, or_false] at hx
    have c1 := hv.2.1; have c2 := hv.2.2.1; have c3 := hv.2.2.2
    rcases hx with rfl | rfl | rfl
    ·exact qe6 c1 (by decide) (by decide)
    ·exact qe6 c2 (by decide) (by decide)
    ·exact qe6 c3 (by decide) (by decide)), Option.bind_some, gd_t (qbG (by omega)), w1 hi (by omega)]; rfl
  ·show qa2 n ((n.2.2.2.1.length : Nat) : Int) o = _
   unfold qa2
   rw [dec_f (by omega)]; rfl
 have hfm := qou (f := qcX n.1) (K := 9) (l := n.2.1) (fun s hs => by unfold qcX; have := (h.seg hs).l2; simp; omega)
 unfold qbe
 rw [e0, Option.bind_some]
 rw [show (!decide ((0 : Int) = 0)) = false from rfl, cond_false]
 have htwo := h.two
 rw [qko _ _ (by simp) (fun x hx => by
  simp only [List.mem_cons, List.not_mem_nil, or_false] at hx
  have c1 := htwo.1; have c2 := htwo.2
  rcases hx with rfl | rfl
  ·exact qe6 c1 (by decide) (by decide)
  ·exact qe6 c2 (by decide) (by decide)), Option.bind_some]
 refine (congrArg (fun o => Option.bind o _) l0).trans ?_
 rw [Option.bind_some, l1 _ (by simp; omega), Option.bind_some, l3 _ (by simp only [List.length_append, List.length_map, List.length_singleton]; omega), Option.bind_some, l4 _ (by simp only [List.length_append, List.length_map, List.length_singleton]; omega), Option.bind_some]
 have hj : qex (rowsN n) = some (qfN (rowsN n)) := qo6 _ (qpZ h.rows)
 refine (congrArg (fun o => Option.bind o _) hj).trans ?_
 rfl
end Go.Proofs.YtpgigbdefbeagaaGreatDoor
