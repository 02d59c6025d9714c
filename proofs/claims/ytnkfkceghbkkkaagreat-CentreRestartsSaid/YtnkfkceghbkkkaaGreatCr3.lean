/- The centre: the idle desk is valid; states are compared; records are written, and read again behind a crash. No condition. -/
import Derived.Test.YtnkfkceghbkkkaaGreatCr2
namespace Go.Proofs.YtnkfkceghbkkkaaGreat
open Go Go.Sq Wi
set_option linter.unusedVariables false
/-! ### The idle desk -/
theorem rep0 (k i : Nat) : (List.replicate k (0 : Int)).getD i 0 = 0 := by
 rw [List.getD_eq_getElem?_getD, List.getElem?_replicate]; split <;> rfl
theorem repF (k i : Nat) : (List.replicate k false).getD i false = false := by
 rw [List.getD_eq_getElem?_getD, List.getElem?_replicate]; split <;> rfl
section
variable {n : Net} {a b c : Nat}
abbrev zP (a b c : Nat) : Pl := (List.replicate a 0, (List.replicate b 0, List.replicate c false))
theorem qso : ∀ (f j : Nat), j + f = n.1.length → (topo n (zP a b c) f (List.replicate j true ++ List.replicate f false)).length = f
 | 0, _, _ => rfl
 | f + 1, j, h => by
  unfold topo
  have hfree : ∀ k, freeB n (zP a b c) (List.replicate j true ++ List.replicate (f + 1) false) k = !(List.replicate j true ++ List.replicate (f + 1) false).getD k false := fun k => by
   unfold freeB
   have : (List.range n.2.1.length).any (blk n (zP a b c) (List.replicate j true ++ List.replicate (f + 1) false) k) = false := by
    rw [List.any_eq_false]
    intro i _
    unfold blk rate
    rw [rep0, decide_eq_true rfl]; simp
   rw [this]; simp
  have hnext : nextF n (zP a b c) (List.replicate j true ++ List.replicate (f + 1) false) = some j := by
   unfold nextF
   rw [List.find?_range_eq_some]
   refine ⟨?_, ?_, fun i hi => ?_⟩
   ·rw [hfree, List.getD_eq_getElem?_getD, List.getElem?_append_right (by simp)]; simp
   ·rw [List.mem_range]; omega
   ·rw [hfree, List.getD_eq_getElem?_getD, List.getElem?_append_left (by simp; omega), List.getElem?_replicate, if_pos hi]; rfl
  rw [hnext]
  have hset : (List.replicate j true ++ List.replicate (f + 1) false).set j true = List.replicate (j + 1) true ++ List.replicate f false := by
   rw [List.set_append_right _ _ (by simp)]
   simp only [List.length_replicate, Nat.sub_self, List.replicate_succ, List.set_cons_zero]
   rw [← List.replicate_succ, List.replicate_succ' (n := j), List.append_assoc]; rfl
  simp only [hset, List.length_cons]
  rw [qso f (j + 1) (by omega)]
theorem qw6 (h0 : qca n = 0) : qaY n (zP n.2.1.length n.2.2.1.length n.2.2.2.1.length) = 0 := by
 have hn := VNet.of h0
 unfold qaY
 rw [if_neg (fun e => e h0)]
 have h1 : szB n (zP n.2.1.length n.2.2.1.length n.2.2.2.1.length) = true := qna.2 ⟨by simp, by simp, by simp⟩
 have h2 : qk1 n (zP n.2.1.length n.2.2.1.length n.2.2.2.1.length) = true := by
  unfold qk1
  rw [List.all_eq_true]
  intro i hi
  have := qq1 hn (List.mem_range.1 hi)
  unfold rtB rate
  rw [rep0]
  exact qk2.2 ⟨by omega, by omega⟩
 have h3 : qhC (zP n.2.1.length n.2.2.1.length n.2.2.2.1.length) = true := by
  unfold qhC
  rw [List.all_eq_true]
  intro x hx
  rw [List.eq_of_mem_replicate hx]; rfl
 have h4 : balB n (zP n.2.1.length n.2.2.1.length n.2.2.2.1.length) = true := by
  unfold balB
  rw [List.all_eq_true]
  intro k _
  refine decide_eq_true ?_
  have z1 : comeF n (zP n.2.1.length n.2.2.1.length n.2.2.2.1.length) (k : Int) = 0 := by
   unfold comeF
   rw [qdy _ fun i _ => ?_, qdy _ fun i _ => ?_]; rfl
   ·unfold qfP prate; rw [rep0]; split <;> rfl
   ·unfold segIn rate amt; rw [rep0]; split <;> rfl
  have z2 : qh4 n (zP n.2.1.length n.2.2.1.length n.2.2.2.1.length) (k : Int) = 0 := by
   unfold qh4
   rw [qdy _ fun i _ => ?_, qdy _ fun i _ => ?_]; rfl
   ·unfold qdF prate; rw [rep0]; split <;> rfl
   ·unfold qbY rate amt; rw [rep0]; split <;> rfl
  rw [z1, z2]
 have h5 : (ordL n (zP n.2.1.length n.2.2.1.length n.2.2.2.1.length)).length = n.1.length := by
  unfold ordL
  exact qso n.1.length 0 (by omega)
 rw [h1, h2, h3, h4, h5]
 simp
theorem qw7 (h0 : qca n = 0) {t : Int} (ht : 1 ≤ t ∧ t ≤ 60) : qc2 n (List.replicate (n.2.1.length + n.2.2.1.length) (t, (0, (false, false))), zP n.2.1.length n.2.2.1.length n.2.2.2.1.length) = 0 := by
 unfold qc2
 rw [if_neg (fun e => e h0), if_neg (fun e => e (qw6 h0))]
 have h1 : vlB n (List.replicate (n.2.1.length + n.2.2.1.length) (t, (0, (false, false)))) = true := by
  unfold vlB
  rw [decide_eq_true (by simp), Bool.true_and, List.all_eq_true]
  intro x hx
  rw [List.eq_of_mem_replicate hx]
  unfold qcA
  rw [rg_t ht, show rg 0 t 0 = true from rg_t ⟨by omega, by omega⟩]; rfl
 have h2 : rdyB (List.replicate (n.2.1.length + n.2.2.1.length) (t, (0, (false, false))), zP n.2.1.length n.2.2.1.length n.2.2.2.1.length) = true := by
  unfold rdyB need nz
  simp only [List.map_replicate, decide_true, Bool.not_true]
  rw [List.replicate_append_replicate, List.all_eq_true]
  intro i _
  rw [repF]; rfl
 have h3 : idleB n (zP n.2.1.length n.2.2.1.length n.2.2.2.1.length) = false := by
  unfold idleB
  rw [List.any_eq_false]
  intro i _
  unfold qi7
  rw [repF]; simp
 rw [h1, h2, h3]; rfl
end
/-! ### Comparing is always possible -/
theorem qmJ {step : Int → Option (Int ⊕ (Unit ⊕ Bool))} {m : Nat} (h : ∀ i : Nat, i ≤ m → Ok (step (i : Int)) fun r => match r with | .inl y => y = ((i + 1 : Nat) : Int) ∧ i < m | .inr _ => True) : Ok (iter step 0) fun _ => True := by
 refine Ok.loop (fun x => ∃ i : Nat, x = (i : Int) ∧ i ≤ m) (fun x => m - x.toNat) ⟨0, rfl, by omega⟩ ?_
 rintro x ⟨i, rfl, hi⟩
 refine (h i hi).mono fun r hr => ?_
 cases r with
 | inl y => obtain ⟨rfl, h2⟩ := hr; exact ⟨⟨i + 1, rfl, by omega⟩, by simp only [Int.toNat_natCast]; omega⟩
 | inr y => trivial
theorem qmK {s : Unit ⊕ Bool} {f : Unit → Option Bool} {g : Bool → Option Bool} (hf : Ok (f ()) fun _ => True) (hg : ∀ b, Ok (g b) fun _ => True) : Ok (s.elim f g) fun _ => True := by
 cases s with
 | inl u => exact hf
 | inr b => exact hg b
theorem totI (a b : List Int) (h : a.length ≤ 100000) : Ok (qbW a b) fun _ => True := by
 unfold qbW
 refine Ok.bif (fun _ => .ret trivial) fun hc => ?_
 have hc : (a.length : Int) = b.length := by simpa using hc
 refine Ok.bind (qmJ (m := a.length) fun i hi => ?_) fun s _ => qmK (.ret trivial) fun b => .ret trivial
 unfold qb1
 refine Ok.bif (fun h1 => ?_) fun _ => .ret trivial
 have h1 := of_decide_eq_true h1
 refine Ok.gd (inB_t (by omega)) (Ok.gd (inB_t (by omega)) (Ok.bif (fun _ => .ret trivial) fun _ => .ret ?_))
 rw [w1 (n := a.length) (by omega) (by omega)]; exact ⟨rfl, by omega⟩
theorem totB (a b : List Bool) (h : a.length ≤ 100000) : Ok (qcx a b) fun _ => True := by
 unfold qcx
 refine Ok.bif (fun _ => .ret trivial) fun hc => ?_
 have hc : (a.length : Int) = b.length := by simpa using hc
 refine Ok.bind (qmJ (m := a.length) fun i hi => ?_) fun s _ => qmK (.ret trivial) fun b => .ret trivial
 unfold qbH
 refine Ok.bif (fun h1 => ?_) fun _ => .ret trivial
 have h1 := of_decide_eq_true h1
 refine Ok.gd (inB_t (by omega)) (Ok.gd (inB_t (by omega)) (Ok.bif (fun _ => .ret trivial) fun _ => .ret ?_))
 rw [w1 (n := a.length) (by omega) (by omega)]; exact ⟨rfl, by omega⟩
theorem totV (a b : List Vl) (h : a.length ≤ 100000) : Ok (qf8 a b) fun _ => True := by
 unfold qf8
 refine Ok.bif (fun _ => .ret trivial) fun hc => ?_
 have hc : (a.length : Int) = b.length := by simpa using hc
 refine Ok.bind (qmJ (m := a.length) fun i hi => ?_) fun s _ => qmK (.ret trivial) fun b => .ret trivial
 unfold qdr
 refine Ok.bif (fun h1 => ?_) fun _ => .ret trivial
 have h1 := of_decide_eq_true h1
 refine Ok.gd (inB_t (by omega)) (Ok.gd (inB_t (by omega)) (Ok.bif (fun _ => .ret trivial) fun _ => .ret ?_))
 rw [w1 (n := a.length) (by omega) (by omega)]; exact ⟨rfl, by omega⟩
theorem totA (a b : List Acc4) (h : a.length ≤ 100000) : Ok (qga a b) fun _ => True := by
 unfold qga
 refine Ok.bif (fun _ => .ret trivial) fun hc => ?_
 have hc : (a.length : Int) = b.length := by simpa using hc
 refine Ok.bind (qmJ (m := a.length) fun i hi => ?_) fun s _ => qmK (.ret trivial) fun b => .ret trivial
 unfold qds
 refine Ok.bif (fun h1 => ?_) fun _ => .ret trivial
 have h1 := of_decide_eq_true h1
 refine Ok.gd (inB_t (by omega)) (Ok.gd (inB_t (by omega)) (Ok.bif (fun _ => .ret trivial) fun _ => .ret ?_))
 rw [w1 (n := a.length) (by omega) (by omega)]; exact ⟨rfl, by omega⟩
theorem totT (a b : Tel) (h : a.2.2.2.2.2.length ≤ 100000) : Ok (qbI a b) fun _ => True := by
 unfold qbI
 have z : ∀ b : Bool, Ok (some b) fun _ => True := fun b => .ret trivial
 exact Ok.bif (fun _ => Ok.bif (fun _ => Ok.bif (fun _ => Ok.bif (fun _ => Ok.bif (fun _ => Ok.bind (totI _ _ h) fun _ _ => z _) fun _ => z _) fun _ => z _) fun _ => z _) fun _ => z _) fun _ => z _
theorem totD (a b : Dk) (h : DkS a) : Ok (qf9 a b) fun _ => True := by
 unfold qf9 qdP
 have z : ∀ b : Bool, Ok (some b) fun _ => True := fun b => .ret trivial
 refine Ok.bind (totV _ _ h.v) fun r _ => Ok.bif (fun _ => ?_) fun _ => z _
 refine Ok.bind (Q := fun _ => True) ?_ fun _ _ => z _
 exact Ok.bind (totI _ _ h.r) fun _ _ => Ok.bif (fun _ => Ok.bind (totI _ _ h.p) fun _ _ => Ok.bif (fun _ => Ok.bind (totB _ _ h.b) fun _ _ => z _) fun _ => z _) fun _ => z _
theorem totC (a b : Cn) (h : CnS a) : Ok (qbj a b) fun _ => True := by
 unfold qbj
 have ht := h.t
 refine Ok.bind (Q := fun s => s = false → a.2.1.length = b.2.1.length) ?_ fun s hs => ?_
 ·refine Ok.bif (fun _ => .ret fun h => by cases h) fun _ => Ok.bind (totD _ _ h.d) fun _ _ => Ok.bif (fun _ => .ret fun h => by cases h) fun _ => Ok.bind (totA _ _ (by have := h.a; omega)) fun _ _ => Ok.bif (fun _ => .ret fun h => by cases h) fun _ => .ret fun hc => ?_
  have : (a.2.1.length : Int) = b.2.1.length := by simpa using hc
  omega
 ·refine Ok.bif (fun _ => .ret trivial) fun hc => ?_
  have hl := hs hc
  refine Ok.bind (qmJ (m := a.2.1.length) fun i hi => ?_) fun s _ => qmK (.ret trivial) fun b => .ret trivial
  unfold qdt
  refine Ok.bif (fun h1 => ?_) fun _ => .ret trivial
  have h1 := of_decide_eq_true h1
  refine Ok.gd (inB_t (by omega)) (Ok.gd (inB_t (by omega)) (Ok.bind (totT _ _ (h.tv _ (gmem (d := t0) (by simp only [Int.toNat_natCast]; omega)))) fun _ _ => Ok.bif (fun _ => .ret trivial) fun _ => .ret ?_))
  rw [w1 (n := a.2.1.length) (by omega) (by omega)]; exact ⟨rfl, by omega⟩
/-! ### Records, one behind the other -/
noncomputable def foldC (n : Net) : Cn → List Rec → Cn
 | c, [] => c
 | c, r :: l => foldC n (capp n c r).1 l
structure Hist (n : Net) (c0 : Cn) (rs : List Rec) (c : Cn) : Prop where
 fin : foldC n c0 rs = c
 ok : ∀ i, i < rs.length → (capp n (foldC n c0 (rs.take i)) (rs.getD i (0, ([], ((0, (0, (0, (0, (0, ([], 0)))))), ([], (0, 0))))))).2 = 0
 enc : ∀ r ∈ rs, EncP r
 inv : ∀ i, i ≤ rs.length → CnI n (foldC n c0 (rs.take i)) i
abbrev r0 : Rec := (0, ([], ((0, (0, (0, (0, (0, ([], 0)))))), ([], (0, 0)))))
theorem qkv (n : Net) (r : Rec) : ∀ (l : List Rec) (c : Cn), foldC n c (l ++ [r]) = (capp n (foldC n c l) r).1
 | [], c => rfl
 | x :: l, c => by
  show foldC n (capp n c x).1 (l ++ [r]) = _
  rw [qkv n r l]; rfl
theorem qu0 (n : Net) (c : Cn) {rs : List Rec} {i : Nat} (hi : i < rs.length) : foldC n c (rs.take (i + 1)) = (capp n (foldC n c (rs.take i)) (rs.getD i r0)).1 := by
 rw [List.take_succ_eq_append_getElem hi, qkv, List.getD_eq_getElem?_getD, List.getElem?_eq_getElem hi]; rfl
theorem qyQ {r : Rec} (h : EncP r) : r.2.1.length ≤ 21 ∧ (hps r).length ≤ 32 := by
 have := h.nb
 unfold big at this
 omega
theorem Hist.put {n : Net} (hn : GN n) {c0 c : Cn} {rs : List Rec} (h : Hist n c0 rs c) (hl : rs.length ≤ 100) {r : Rec} (h0 : (capp n c r).2 = 0) : Hist n c0 (rs ++ [r]) (capp n c r).1 := by
 have hi := h.inv rs.length (Nat.le_refl _)
 rw [List.take_length, h.fin] at hi
 have he := qw5 hn hi (by omega) h0
 have hv := qyQ he
 have hr : RecP r := ⟨by omega, by have : (hps r).length = r.2.2.1.2.2.2.2.2.1.length := rfl; omega⟩
 refine ⟨by rw [qkv, h.fin], fun i hlt => ?_, fun x hx => ?_, fun i hle => ?_⟩
 ·rw [List.length_append, List.length_singleton] at hlt
  by_cases hc : i < rs.length
  ·rw [List.take_append_of_le_length (by omega), List.getD_eq_getElem?_getD, List.getElem?_append_left hc, ← List.getD_eq_getElem?_getD]
   exact h.ok i hc
  ·obtain rfl : i = rs.length := by omega
   rw [List.take_append_of_le_length (Nat.le_refl _), List.take_length, h.fin, List.getD_eq_getElem?_getD, List.getElem?_append_right (Nat.le_refl _)]
   simpa using h0
 ·rcases List.mem_append.1 hx with hx | hx
  ·exact h.enc x hx
  ·rw [List.mem_singleton.1 hx]; exact he
 ·rw [List.length_append, List.length_singleton] at hle
  by_cases hc : i ≤ rs.length
  ·rw [List.take_append_of_le_length hc]; exact h.inv i hc
  ·obtain rfl : i = rs.length + 1 := by omega
   rw [List.take_of_length_le (by simp), qkv, h.fin]
   exact (qtj hi (by omega) hr h0).1
theorem files {rs : List Rec} (he : ∀ r ∈ rs, EncP r) (hl : rs.length ≤ 30) {t : List Int} (ht : Torn t) : FilP (rs.map bts) t ∧ (fileB (rs.map bts)).length ≤ 1510 * rs.length := by
 have h1 : (fileB (rs.map bts)).length ≤ 1510 * rs.length := by
  clear hl ht
  induction rs with
  | nil => simp [fileB]
  | cons r l ih =>
   have h2 := qpr (he r List.mem_cons_self)
   have h3 := qho (qj7 (b := bts r) (by omega))
   have h4 := ih fun x hx => he x (List.mem_cons_of_mem _ hx)
   show (frmB (bts r) ++ fileB (l.map bts)).length ≤ _
   rw [List.length_append]
   unfold frmB
   rw [List.length_append, List.length_cons]
   omega
 refine ⟨⟨fun x hx => ?_, ht, ?_⟩, h1⟩
 ·obtain ⟨r, hr, rfl⟩ := List.mem_map.1 hx
  have := qpr (he r hr)
  exact ⟨by omega, this.2⟩
 ·obtain ⟨b, k, hb, _, hk, rfl⟩ := ht
  have := qhD hb
  rw [List.length_append, List.length_take]; omega
theorem qye {n : Net} (hn : GN n) {c0 c : Cn} {rs : List Rec} (h : Hist n c0 rs c) (hl : rs.length ≤ 20) {r : Rec} (hr : RecP r) :
  qfD n (fileB (rs.map bts), []) c r = some (if (capp n c r).2 = 0 then ((fileB ((rs ++ [r]).map bts), []), (capp n c r).1, 0) else ((fileB (rs.map bts), []), c, (capp n c r).2)) := by
 have hi := h.inv rs.length (Nat.le_refl _)
 rw [List.take_length, h.fin] at hi
 have hcs := hi.cns hn (by omega)
 have hn0 := hi.n0; have hn1 := hi.n1
 obtain ⟨hf, hfl⟩ := files h.enc (by omega) qn7
 unfold qfD
 simp only
 rw [qpq _ (by omega), Option.bind_some, qpq _ (by simp), Option.bind_some, qa7]
 rw [show (((c.1.1, (c.1.2.1, (c.1.2.2.1, c.1.2.2.2))), (c.2.1, (c.2.2.1, c.2.2.2))) : Cn) = c from rfl, show ((r.1, (r.2.1, ((r.2.2.1.1, (r.2.2.1.2.1, (r.2.2.1.2.2.1, (r.2.2.1.2.2.2.1, (r.2.2.1.2.2.2.2.1, (r.2.2.1.2.2.2.2.2.1, r.2.2.1.2.2.2.2.2.2)))))), (r.2.2.2.1, (r.2.2.2.2.1, r.2.2.2.2.2))))) : Rec) = r from rfl]
 rw [apply_eq' n hcs hi.srt (by omega) r (by have := hr.v; omega), Option.bind_some]
 by_cases h0 : (capp n c r).2 = 0
 ·rw [dec_t h0, if_pos h0, Bool.not_true, cond_false]
  have he := qw5 hn hi (by omega) h0
  have hb := qpr he
  have hbf := qhD (b := bts r) (by omega)
  rw [qyP he, Option.bind_some]
  simp only [decide_true, Bool.not_true, cond_false]
  rw [qw3 hf (by omega) (by omega), Option.bind_some]
  simp only [decide_true, Bool.not_true, cond_false]
  rw [qzI (by omega), Option.bind_some, List.map_append, qj5, List.map_singleton, qmI]
 ·rw [dec_f h0, if_neg h0, Bool.not_false, cond_true, qq6 hcs, Option.bind_some]
theorem qnd {n : Net} (hn : GN n) {c0 c : Cn} {rs : List Rec} {t : Int} (hnew : qeV n t = some (c0, 0)) (h : Hist n c0 rs c) (hl : rs.length ≤ 30) {tl : List Int} (ht : Torn tl) :
  qcW n t (fileB (rs.map bts) ++ tl, []) = some ((fileB (rs.map bts), []), c, 0) := by
 obtain ⟨hf, hfl⟩ := files h.enc hl ht
 have hN := hf.n
 unfold qcW
 simp only
 rw [qpq _ (by omega), Option.bind_some, qpq _ (by simp), Option.bind_some, qa7, hnew, Option.bind_some]
 simp only [decide_true, Bool.not_true, cond_false]
 rw [quZ hf, Option.bind_some]
 simp only
 generalize hB : fileB (rs.map bts) ++ tl = B
 have key := qbe (step := fun x : Int × List Int × List Int × List Vl × List Int × List Int × List Bool × List Tel × List Acc4 × Int × List Vl × List Int × List Int × List Bool × List Tel × List Acc4 × Int × List (List Int) => qdq n B [] ((fileB (rs.map bts), []), rs.map bts) x.1 x.2.1 x.2.2.1 x.2.2.2.1 x.2.2.2.2.1 x.2.2.2.2.2.1 x.2.2.2.2.2.2.1 x.2.2.2.2.2.2.2.1 x.2.2.2.2.2.2.2.2.1 x.2.2.2.2.2.2.2.2.2.1 x.2.2.2.2.2.2.2.2.2.2.1 x.2.2.2.2.2.2.2.2.2.2.2.1 x.2.2.2.2.2.2.2.2.2.2.2.2.1 x.2.2.2.2.2.2.2.2.2.2.2.2.2.1 x.2.2.2.2.2.2.2.2.2.2.2.2.2.2.1 x.2.2.2.2.2.2.2.2.2.2.2.2.2.2.2.1 x.2.2.2.2.2.2.2.2.2.2.2.2.2.2.2.2.1 x.2.2.2.2.2.2.2.2.2.2.2.2.2.2.2.2.2)
  rs.length (fun i => ((i : Int), [], [], [], [], [], [], [], [], 0, (foldC n c0 (rs.take i)).1.1, (foldC n c0 (rs.take i)).1.2.1, (foldC n c0 (rs.take i)).1.2.2.1, (foldC n c0 (rs.take i)).1.2.2.2, (foldC n c0 (rs.take i)).2.1, (foldC n c0 (rs.take i)).2.2.1, (foldC n c0 (rs.take i)).2.2.2, rs.map bts))
  (e := .inl ([], [], [], [], [], [], [], [], 0, c.1.1, c.1.2.1, c.1.2.2.1, c.1.2.2.2, c.2.1, c.2.2.1, c.2.2.2)) (fun i hi => by
   have hI := h.inv i (by omega)
   have hcs := hI.cns hn (by omega)
   have hn0 := hI.n0; have hn1 := hI.n1
   have hm : rs.getD i r0 ∈ rs := gmem hi
   have he := h.enc _ hm
   have hk := h.ok i hi
   have hv := qyQ he
   unfold qdq
   simp only [List.length_map, Int.toNat_natCast]
   rw [dec_t (show (i : Int) < (rs.length : Int) by omega), cond_true, gd_t (inB_t (by omega))]
   have hg : (rs.map bts).getD i [] = bts (rs.getD i r0) := by
    rw [List.getD_eq_getElem?_getD, List.getElem?_map, List.getD_eq_getElem?_getD, List.getElem?_eq_getElem hi]; rfl
   rw [hg, qAn he, Option.bind_some]
   simp only [decide_true, Bool.not_true, cond_false]
   rw [qa7]
   generalize hr : rs.getD i r0 = r at *
   refine (congrArg (fun o => Option.bind o _) (apply_eq' n hcs hI.srt (by omega) r (by omega))).trans ?_
   rw [Option.bind_some, dec_t hk, Bool.not_true, cond_false, w1 hi (by omega), qu0 n c0 hi, hr]) (by
   rw [List.take_length, h.fin]
   unfold qdq
   simp only [List.length_map]
   rw [dec_f (by omega)]; rfl)
 refine (congrArg (fun o => Option.bind o _) key).trans ?_
 rfl
end Go.Proofs.YtnkfkceghbkkkaaGreat
