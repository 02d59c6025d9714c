/- What is kept; litres of all batches. No condition. -/
import Derived.Test.YtnhaphgnpgaocaaAu3
namespace Go.Proofs.Ytnhaphgnpgaocaa
open Go Go.Sq

theorem errF_ok {fs : List (List Pc)} (h : errF fs = 0) : fs.length ≤ 32 ∧ ∀ f ∈ fs, VF f := by
  unfold errF at h
  split at h
  · cases h
  · split at h
    · next h1 h2 => exact ⟨by omega, fun f hf => vB_iff.1 (List.all_eq_true.1 h2 f hf)⟩
    · cases h
theorem Tab.add {M : List Pc} {g : Int → Int} (h : Tab M g) (k d : Int) : ∃ M', Tab M' fun b => g b + if b = k then d else 0 := by
  by_cases h0 : g k + d = 0
  · refine ⟨_, (h.del (b := k) (v := 1)).cong fun x => ?_⟩
    by_cases hx : x = k
    · subst hx; rw [if_pos rfl, if_pos rfl, h0]
    · rw [if_neg hx, if_neg hx, Int.add_zero]
  · refine ⟨_, (h.put (b := k) h0).cong fun x => ?_⟩
    by_cases hx : x = k
    · subst hx; rw [if_pos rfl, if_pos rfl]
    · rw [if_neg hx, if_neg hx, Int.add_zero]
theorem tab_sum {sg : Int} (hsg : sg = 1 ∨ sg = -1) : ∀ (c : List Pc) {M : List Pc} {g : Int → Int}, Tab M g → ∃ e, Tab e fun b => g b + sg * amt c b
  | [], M, g, h => ⟨M, h.cong fun x => by show _ = _ + sg * 0; rw [Int.mul_zero, Int.add_zero]⟩
  | p :: r, M, g, h => by
    obtain ⟨M', h'⟩ := h.add p.1 (sg * p.2)
    obtain ⟨e, he⟩ := tab_sum hsg r h'
    refine ⟨e, he.cong fun x => ?_⟩
    show _ = _ + sg * (_ + amt r x)
    rcases hsg with rfl | rfl <;> split <;> omega

theorem kept_walk {before after : List (List Pc)} {vin out : List Pc} {v sg : Int} (hq : ([(before, 1), (after, (-1)), ([vin], 1), ([out], (-1))].getD v.toNat ([], 0)).2 = sg) (hsg : sg = 1 ∨ sg = -1) {c S : List Pc} {g : Int → Int} (hS : Tab S g) (hc : ∀ p ∈ c, 0 ≤ p.2)
    (hb : ∀ b, amt c b ≤ 32000000) (hg : ∀ b, -200000000 ≤ g b ∧ g b ≤ 200000000) : ∃ e, iterA (fun x : List Pc × List Pc => audit_Kept_L1 before after vin out v x.1 x.2) (S, (0, 0) :: c) = some e ∧ Tab e fun b => g b + sg * amt c b := by
  obtain ⟨e, he⟩ := tab_sum hsg c hS
  refine ⟨e, ?_, he⟩
  refine iterA_inv (fun x => Tab x.1 (fun b => g b + sg * amt c b - sg * amt x.2.tail b) ∧ (∀ p ∈ x.2.tail, 0 ≤ p.2) ∧ ∀ b, amt x.2.tail b ≤ amt c b) (fun x => x.2.tail.length) ⟨hS.cong fun x => ?_, hc, fun b => Int.le_refl _⟩ ?_ ?_
  · show _ = _ - sg * amt c x; omega
  · rintro ⟨S', v2⟩ _
    unfold audit_Kept_L1
    simp only
    cases h : v2.tail with
    | nil => simp [isNilL]
    | cons p r => simp [isNilL, List.range_succ]
  · rintro ⟨S', v2⟩ ⟨h1, h2, h3⟩ o ho
    unfold audit_Kept_L1 at ho
    simp only at h1 h2 h3 ho ⊢
    generalize v2.tail = L at h1 h2 h3 ho
    cases hL : L with
    | nil =>
      rw [hL] at h1 ho
      simp only [isNilL, cond_true, List.mem_singleton] at ho
      right
      rw [ho, h1.uniq he fun x => by show _ - sg * 0 = _; omega]
    | cons p0 r0 =>
      rw [show isNilL L = false by rw [hL]; rfl] at ho
      simp only [cond_false, List.mem_map, List.mem_range] at ho
      obtain ⟨i, hi, rfl⟩ := ho
      left
      have hLi : L[i]? = some (L.getD i (0, 0)) := by rw [List.getD_eq_getElem?_getD, List.getElem?_eq_getElem hi]; rfl
      simp only [pickAt, List.headD_cons, hq, h1.val]
      generalize hp : L.getD i (0, 0) = p at hLi
      have hp2 := h2 p (List.mem_of_getElem? hLi)
      have hamt := amt_erase hLi
      have hsub : ∀ q ∈ L.eraseIdx i, 0 ≤ q.2 := fun q hq => h2 q (List.mem_of_mem_eraseIdx hq)
      have hnn := fun b => amt_nn hsub b
      have hle : ∀ b, amt (L.eraseIdx i) b ≤ amt c b := fun b => by
        have := h3 b
        rw [hamt b] at this
        split at this <;> omega
      have hlen : (L.eraseIdx i).length < L.length := by rw [List.length_eraseIdx, if_pos hi]; omega
      have hgp := hg p.1
      have hcp := hb p.1
      have hlp := h3 p.1
      have hap := hamt p.1
      rw [if_pos rfl] at hap
      have hnp := hnn p.1
      have w1 : wi64 (sg * p.2) = sg * p.2 := by rcases hsg with rfl | rfl <;> exact wi (by omega)
      have w2 : wi64 (g p.1 + sg * amt c p.1 - sg * amt L p.1 + sg * p.2) = g p.1 + sg * amt c p.1 - sg * amt L p.1 + sg * p.2 := by rcases hsg with rfl | rfl <;> exact wi (by omega)
      have hval : ∀ y : Int, (mget keyI (mput keyI S' p.1 y) p.1).getD 0 = y := fun y => by rw [mput_get h1.srt, if_pos rfl]; rfl
      rw [w1, w2, hval]
      by_cases h0 : g p.1 + sg * amt c p.1 - sg * amt L p.1 + sg * p.2 = 0
      · rw [dec_t h0]
        refine ⟨_, rfl, ⟨h1.del.cong fun x => ?_, hsub, hle⟩, ?_⟩
        · simp only [List.tail_cons]
          by_cases hx : x = p.1
          · rw [if_pos hx]
            subst hx
            rcases hsg with rfl | rfl <;> omega
          · rw [if_neg hx]
            have := hamt x
            rw [if_neg hx] at this
            rcases hsg with rfl | rfl <;> omega
        · rw [← hL]; exact hlen
      · rw [dec_f h0]
        refine ⟨_, rfl, ⟨(h1.put h0).cong fun x => ?_, hsub, hle⟩, ?_⟩
        · simp only [List.tail_cons]
          by_cases hx : x = p.1
          · rw [if_pos hx]
            subst hx
            rcases hsg with rfl | rfl <;> omega
          · rw [if_neg hx]
            have := hamt x
            rw [if_neg hx] at this
            rcases hsg with rfl | rfl <;> omega
        · rw [← hL]; exact hlen

def balB (before after : List (List Pc)) (vin out : List Pc) : Bool := (List.range 1000).all fun b => decide (amt (pcs before) (b : Int) + amt (pcs [vin]) (b : Int) = amt (pcs after) (b : Int) + amt (pcs [out]) (b : Int))
def keptF (before after : List (List Pc)) (vin out : List Pc) : Bool × Int :=
  if errF before ≠ 0 then (false, errF before) else if errF after ≠ 0 then (false, errF after) else if errF [vin] ≠ 0 then (false, errF [vin]) else if errF [out] ≠ 0 then (false, errF [out]) else (balB before after vin out, 0)
theorem amt_no {L : List Pc} {b : Int} (h : ∀ p ∈ L, p.1 ≠ b) : amt L b = 0 := by
  induction L with
  | nil => rfl
  | cons p r ih =>
    show _ + amt r b = 0
    rw [if_neg (fun e => h p (by simp) e.symm), ih fun q hq => h q (by simp [hq])]; rfl
theorem amt_out {fs : List (List Pc)} (h : errF fs = 0) {b : Int} (hb : b < 0 ∨ 1000 ≤ b) : amt (pcs fs) b = 0 :=
  amt_no fun p hp => by have := (pcs_ok (errF_ok h).2 p hp).1; omega
theorem balB_iff {before after : List (List Pc)} {vin out : List Pc} (h1 : errF before = 0) (h2 : errF after = 0) (h3 : errF [vin] = 0) (h4 : errF [out] = 0) :
    balB before after vin out = true ↔ ∀ b, amt (pcs before) b + amt (pcs [vin]) b = amt (pcs after) b + amt (pcs [out]) b := by
  unfold balB
  rw [all_range]
  constructor
  · intro h b
    by_cases hb : b < 0 ∨ 1000 ≤ b
    · rw [amt_out h1 hb, amt_out h2 hb, amt_out h3 hb, amt_out h4 hb]
    · have := of_decide_eq_true (h b.toNat (by omega))
      rwa [show ((b.toNat : Nat) : Int) = b by omega] at this
  · intro h i _; exact dec_t (h i)
theorem Tab.empty {M : List Pc} {g : Int → Int} (h : Tab M g) : M.length = 0 ↔ ∀ x, g x = 0 := by
  constructor
  · intro hl x
    have := h.get x
    rw [List.eq_nil_of_length_eq_zero hl] at this
    by_cases hx : g x = 0
    · exact hx
    · rw [if_neg hx] at this; cases this
  · intro hx
    cases M with
    | nil => rfl
    | cons p r =>
      have := h.get p.1
      rw [mget_cons, if_pos rfl, if_pos (hx _)] at this; cases this
theorem kept_step {before after : List (List Pc)} {vin out : List Pc} {v : Nat} {fs : List (List Pc)} {sg : Int} (hv : v < 4) (hq : [(before, 1), (after, (-1)), ([vin], 1), ([out], (-1))].getD v ([], 0) = (fs, sg)) (hsg : sg = 1 ∨ sg = -1) {S : List Pc} {g : Int → Int} (hS : Tab S g)
    (hg : ∀ b, -200000000 ≤ g b ∧ g b ≤ 200000000) : (errF fs ≠ 0 ∧ audit_Kept_L0 before after vin out (v : Int) S = some (.inr (.inr (false, errF fs)))) ∨ (errF fs = 0 ∧ ∃ e, audit_Kept_L0 before after vin out (v : Int) S = some (.inl (((v + 1 : Nat) : Int), e)) ∧ Tab e fun b => g b + sg * amt (pcs fs) b) := by
  obtain ⟨M, hM, ht⟩ := counted_eq (fs := fs)
  unfold audit_Kept_L0
  rw [show (([(before, 1), (after, (-1)), ([vin], 1), ([out], (-1))] : List (List (List Pc) × Int)).length : Int) = 4 from rfl, show ([(before, 1), (after, (-1)), ([vin], 1), ([out], (-1))] : List (List (List Pc) × Int)).length = 4 from rfl, dec_t (show (v : Int) < 4 by omega), gd_t (inB_t hv), Int.toNat_natCast, hq, hM]
  simp only [cond_true, Option.bind_some]
  by_cases h0 : errF fs = 0
  · right
    refine ⟨h0, ?_⟩
    rw [dec_t h0]
    have T := ht h0
    obtain ⟨hl, hf⟩ := errF_ok h0
    have hamt := fun b => pcs_amt hf hl b
    obtain ⟨e, e1, e2⟩ := kept_walk (before := before) (after := after) (vin := vin) (out := out) (v := (v : Int)) (sg := sg) (by rw [Int.toNat_natCast, hq]) hsg (c := M) hS (fun p hp => by
      have h1 := mem_mget T.srt hp
      rw [T.get] at h1
      split at h1
      · cases h1
      · injection h1 with h1; have := (hamt p.1).1; omega) (fun b => by rw [T.amt]; exact (hamt b).2) hg
    refine ⟨e, ?_, e2.cong fun b => by rw [T.amt]⟩
    simp only [Bool.not_true, cond_false]
    rw [e1, Option.bind_some, wi (by omega)]; rfl
  · left
    refine ⟨h0, ?_⟩
    rw [dec_f h0]; rfl
theorem kept_eq (before after : List (List Pc)) (vin out : List Pc) : audit_Kept before after vin out = some (keptF before after vin out) := by
  unfold audit_Kept keptF
  have bd : ∀ {fs : List (List Pc)}, errF fs = 0 → ∀ b, 0 ≤ amt (pcs fs) b ∧ amt (pcs fs) b ≤ 32000000 := fun h b => pcs_amt (errF_ok h).2 (errF_ok h).1 b
  rcases kept_step (before := before) (after := after) (vin := vin) (out := out) (v := 0) (by omega) rfl (.inl rfl) Tab.nil (fun b => by omega) with ⟨h1, k1⟩ | ⟨h1, e1, k1, t1⟩
  · rw [if_pos h1, show ((0 : Int), ([] : List Pc)) = (((0 : Nat) : Int), []) from rfl, iter_inr k1]; rfl
  rw [if_neg (fun h => h h1), show ((0 : Int), ([] : List Pc)) = (((0 : Nat) : Int), []) from rfl, iter_inl k1]
  have b1 := bd h1
  rcases kept_step (before := before) (after := after) (vin := vin) (out := out) (v := 1) (by omega) rfl (.inr rfl) t1 (fun b => by have := b1 b; omega) with ⟨h2, k2⟩ | ⟨h2, e2, k2, t2⟩
  · rw [if_pos h2, iter_inr k2]; rfl
  rw [if_neg (fun h => h h2), iter_inl k2]
  have b2 := bd h2
  rcases kept_step (before := before) (after := after) (vin := vin) (out := out) (v := 2) (by omega) rfl (.inl rfl) t2 (fun b => by have := b1 b; have := b2 b; omega) with ⟨h3, k3⟩ | ⟨h3, e3, k3, t3⟩
  · rw [if_pos h3, iter_inr k3]; rfl
  rw [if_neg (fun h => h h3), iter_inl k3]
  have b3 := bd h3
  rcases kept_step (before := before) (after := after) (vin := vin) (out := out) (v := 3) (by omega) rfl (.inr rfl) t3 (fun b => by have := b1 b; have := b2 b; have := b3 b; omega) with ⟨h4, k4⟩ | ⟨h4, e4, k4, t4⟩
  · rw [if_pos h4, iter_inr k4]; rfl
  rw [if_neg (fun h => h h4), iter_inl k4]
  have k5 : audit_Kept_L0 before after vin out ((3 + 1 : Nat) : Int) e4 = some (.inr (.inl e4)) := rfl
  rw [iter_inr k5]
  simp only [Option.bind_some, Sum.elim_inl]
  have : decide ((e4.length : Int) = 0) = balB before after vin out := by
    cases hb : balB before after vin out with
    | true =>
      have hb := (balB_iff h1 h2 h3 h4).1 hb
      refine dec_t ?_
      have := (t4.empty).2 fun x => by have := hb x; omega
      omega
    | false =>
      refine dec_f fun hl => ?_
      have hb2 : balB before after vin out = true := (balB_iff h1 h2 h3 h4).2 fun x => by
        have := (t4.empty).1 (by omega) x
        omega
      rw [hb] at hb2; cases hb2
  rw [this]

/-! ### The greatest batch -/
def mxb : List Pc → Int
  | [] => -1
  | p :: r => max p.1 (mxb r)
theorem mx_ge : ∀ (L : List Pc), -1 ≤ mxb L
  | [] => Int.le_refl _
  | p :: r => by have := mx_ge r; show -1 ≤ max p.1 (mxb r); omega
theorem mx_app (X Y : List Pc) : mxb (X ++ Y) = max (mxb X) (mxb Y) := by
  induction X with
  | nil => have := mx_ge Y; show mxb Y = max (-1) (mxb Y); omega
  | cons p r ih => show max p.1 (mxb (r ++ Y)) = max (max p.1 (mxb r)) (mxb Y); rw [ih]; omega
theorem mx_le {L : List Pc} {t : Int} : mxb L ≤ t ↔ -1 ≤ t ∧ ∀ p ∈ L, p.1 ≤ t := by
  induction L with
  | nil => exact ⟨fun h => ⟨h, fun p hp => by cases hp⟩, fun h => h.1⟩
  | cons p r ih =>
    show max p.1 (mxb r) ≤ t ↔ _
    constructor
    · intro h
      have := ih.1 (by omega)
      exact ⟨this.1, fun q hq => (List.mem_cons.1 hq).elim (fun e => by rw [e]; omega) (this.2 q)⟩
    · intro h
      have h1 := h.2 p (by simp)
      have h2 := ih.2 ⟨h.1, fun q hq => h.2 q (by simp [hq])⟩
      omega
theorem mx_erase {L : List Pc} {i : Nat} {p : Pc} (h : L[i]? = some p) : mxb L = max p.1 (mxb (L.eraseIdx i)) := by
  induction L generalizing i with
  | nil => simp at h
  | cons q r ih =>
    cases i with
    | zero => simp at h; subst h; rfl
    | succ i =>
      have := ih (by simpa using h)
      show max q.1 (mxb r) = max p.1 (max q.1 (mxb (r.eraseIdx i)))
      rw [this]; omega
def tabL (n : Nat) (P : List Pc) : List Int := (List.range n).map fun i : Nat => amt P (i : Int)
def litF (fs : List (List Pc)) : List Int := tabL (mxb (pcs fs) + 1).toNat (pcs fs)
theorem tabL_len (n : Nat) (P : List Pc) : (tabL n P).length = n := by simp [tabL]
theorem tabL_at {n i : Nat} (P : List Pc) (h : i < n) : (tabL n P).getD i 0 = amt P (i : Int) := gD_range (fun i => amt P (i : Int)) n i h
theorem tabL_set {n : Nat} {P : List Pc} {p : Pc} {i : Nat} (hp : p.1 = (i : Int)) (h : i < n) : (tabL n P).set i (amt P (i : Int) + p.2) = tabL n (P ++ [p]) := by
  refine ext_gD 0 (by rw [List.length_set, tabL_len, tabL_len]) fun k hk => ?_
  rw [List.length_set, tabL_len] at hk
  rw [gD_set, tabL_at _ hk, tabL_at _ hk, tabL_len, amt_app, amt_one]
  by_cases hik : i = k
  · subst hik; rw [if_pos ⟨rfl, h⟩, if_pos hp.symm]
  · rw [if_neg (fun h => hik h.1), if_neg (by omega), Int.add_zero]
theorem mx_in {fs : List (List Pc)} (h : errF fs = 0) : mxb (pcs fs) ≤ 999 := mx_le.2 ⟨by omega, fun p hp => by have := (pcs_ok (errF_ok h).2 p hp).1; omega⟩

/-! ### The reference -/
theorem rlit_eq (fs : List (List Pc)) : ref45_Litres fs = some (if errF fs = 0 then (litF fs, 0) else ([], errF fs)) := by
  unfold ref45_Litres
  by_cases hl : 32 < fs.length
  · rw [dec_t (show (32 : Int) < (fs.length : Int) by omega)]
    have : errF fs = 4 := by unfold errF; rw [if_pos hl]
    rw [if_neg (by omega), this]; rfl
  rw [dec_f (show ¬ (32 : Int) < (fs.length : Int) by omega)]
  simp only [cond_false]
  have hOk : Ok (iter (fun x2 : Int × Int => ref45_Litres_L0 fs x2.1 x2.2) ((-1), 0)) fun r => match r with | .inl m => fs.all vB = true ∧ m = mxb (pcs fs) | .inr z => ¬ fs.all vB = true ∧ z = ([], 14) := by
    refine Ok.loop (fun x => ∃ i : Nat, x = (mxb (pcs (fs.take i)), (i : Int)) ∧ i ≤ fs.length ∧ ∀ f ∈ fs.take i, VF f) (fun x => (fs.length - x.2).toNat) ⟨0, rfl, by omega, by simp⟩ ?_
    rintro _ ⟨i, rfl, h1, h2⟩
    unfold ref45_Litres_L0
    by_cases hi : i < fs.length
    · rw [dec_t (show (i : Int) < (fs.length : Int) by omega)]
      simp only [cond_true, gd_t (inB_t hi), Int.toNat_natCast, (valid_eq _).2, Option.bind_some]
      cases hv : vB (fs.getD i []) with
      | false =>
        refine Ok.ret ⟨fun ha => ?_, rfl⟩
        rw [List.all_eq_true.1 ha _ (gD_mem hi)] at hv; cases hv
      | true =>
        have hf := vB_iff.1 hv
        simp only [Bool.not_true, cond_false]
        generalize hfe : fs.getD i [] = f at hf
        have hkl := hf.len
        have k := iter_for (step := fun x : Int × Int => ref45_Litres_L1 fs (i : Int) x.1 x.2) f.length (fun k => (mxb (pcs (fs.take i) ++ f.take k), (k : Int))) (e := mxb (pcs (fs.take i) ++ f)) (fun k hk => by
            unfold ref45_Litres_L1
            simp only [gd_t (inB_t hi), Int.toNat_natCast, hfe, dec_t (show (k : Int) < (f.length : Int) by omega), cond_true, gd_t (inB_t hk)]
            have hq := (hf.rng _ (gD_mem (d := pz) hk)).1
            have hm := mx_ge (pcs (fs.take i) ++ f.take k)
            have e : mxb (pcs (fs.take i) ++ f.take (k + 1)) = max (mxb (pcs (fs.take i) ++ f.take k)) (f.getD k pz).1 := by
              rw [take_next pz hk, ← List.append_assoc, mx_app _ [f.getD k pz]]
              show max _ (max _ (-1)) = _
              omega
            rw [e, wi (by omega)]; rfl) (by
            unfold ref45_Litres_L1
            simp only [gd_t (inB_t hi), Int.toNat_natCast, hfe, dec_f (show ¬ (f.length : Int) < (f.length : Int) by omega), cond_false, List.take_length])
        rw [List.take_zero, List.append_nil] at k
        refine Ok.eq k (Ok.ret ⟨⟨i + 1, ?_, by omega, ?_⟩, by simp only; rw [wi (by omega)]; omega⟩)
        · rw [pcs_take hi, hfe, wi (by omega)]; rfl
        · rw [take_next [] hi, hfe]
          intro g hg
          rcases List.mem_append.1 hg with hg | hg
          · exact h2 g hg
          · rw [List.mem_singleton.1 hg]; exact hf
    · rw [dec_f (show ¬ (i : Int) < (fs.length : Int) by omega)]
      have hii : i = fs.length := by omega
      subst hii
      rw [List.take_length] at h2 ⊢
      exact Ok.ret ⟨List.all_eq_true.2 fun f hf => vB_iff.2 (h2 f hf), rfl⟩
  obtain ⟨r, hr, hq⟩ := hOk
  rw [hr]
  cases r with
  | inr z =>
    have : errF fs = 14 := by unfold errF; rw [if_neg hl, if_neg hq.1]
    rw [if_neg (by omega), this, hq.2]; rfl
  | inl m =>
    obtain ⟨ha, rfl⟩ := hq
    have h0 : errF fs = 0 := by unfold errF; rw [if_neg hl, if_pos ha]
    rw [if_pos h0]
    have hm1 := mx_ge (pcs fs)
    have hm2 := mx_in h0
    have hfs := (errF_ok h0).2
    obtain ⟨n, hn⟩ : ∃ n : Nat, mxb (pcs fs) + 1 = (n : Int) := ⟨(mxb (pcs fs) + 1).toNat, by omega⟩
    have hle := (mx_le (L := pcs fs) (t := mxb (pcs fs))).1 (Int.le_refl _)
    simp only [Option.bind_some, Sum.elim_inl]
    rw [wi (by omega)]
    unfold litF
    rw [hn, makeG_t (show n * 8 ≤ 281474976710656 by omega), gd_tt, Int.toNat_natCast]
    have e0 : List.replicate n (0 : Int) = tabL n [] := by
      refine ext_gD 0 (by rw [List.length_replicate, tabL_len]) fun k hk => ?_
      rw [List.length_replicate] at hk
      rw [gD_rep _ _ _ _ hk, tabL_at _ hk]; rfl
    rw [e0]
    have k := iter_for (step := fun x : Int × List Int => ref45_Litres_L2 fs x.1 x.2) fs.length (fun i => ((i : Int), tabL n (pcs (fs.take i)))) (e := tabL n (pcs fs)) (fun i hi => by
        unfold ref45_Litres_L2
        simp only [dec_t (show (i : Int) < (fs.length : Int) by omega), cond_true]
        have hf := hfs _ (gD_mem (d := []) hi)
        have hin : ∀ p ∈ fs.getD i [], p ∈ pcs fs := fun p hp => List.mem_flatten.2 ⟨_, gD_mem hi, hp⟩
        have hbd : ∀ k b, amt (pcs (fs.take i) ++ (fs.getD i []).take k) b ≤ 32000000 ∧ 0 ≤ amt (pcs (fs.take i) ++ (fs.getD i []).take k) b := fun k b => by
          have h1 := pcs_amt (fs := fs.take (i + 1)) (fun f hf => hfs f (List.mem_of_mem_take hf)) (by rw [List.length_take]; omega) b
          rw [pcs_take hi, amt_app] at h1
          have h2 := amt_take_le (L := fs.getD i []) (fun p hp => by have := hf.norm.pos p hp; omega) k b
          have h3 := amt_nn (L := (fs.getD i []).take k) (fun p hp => by have := hf.norm.pos p (List.mem_of_mem_take hp); omega) b
          have h4 := amt_nn (L := pcs (fs.take i)) (fun p hp => by have := (pcs_ok (fs := fs.take i) (fun f hf => hfs f (List.mem_of_mem_take hf)) p hp).2; omega) b
          rw [amt_app]; omega
        generalize hfe : fs.getD i [] = f at hf hin hbd
        have hkl := hf.len
        have k := iter_for (step := fun x : Int × List Int => ref45_Litres_L3 fs (i : Int) x.1 x.2) f.length (fun k => ((k : Int), tabL n (pcs (fs.take i) ++ f.take k))) (e := tabL n (pcs (fs.take i) ++ f)) (fun k hk => by
            have hq := (hf.rng _ (gD_mem (d := pz) hk)).1
            have hq2 := (hf.rng _ (gD_mem (d := pz) hk)).2
            have hq3 := hf.norm.pos _ (gD_mem (d := pz) hk)
            have hq4 := hle.2 _ (hin _ (gD_mem (d := pz) hk))
            obtain ⟨c, hc⟩ : ∃ c : Nat, (f.getD k pz).1 = (c : Int) := ⟨(f.getD k pz).1.toNat, by omega⟩
            have hcn : c < n := by omega
            have hb := hbd k c
            unfold ref45_Litres_L3
            simp only [gd_t (inB_t hi), Int.toNat_natCast, hfe, dec_t (show (k : Int) < (f.length : Int) by omega), cond_true, gd_t (inB_t hk), show ((0, 0) : Pc) = pz from rfl, hc, tabL_len, gd_t (inB_t hcn), tabL_at _ hcn]
            rw [wi (n := _ + (f.getD k pz).2) (by omega), tabL_set hc hcn, take_next pz hk, ← List.append_assoc, wi (by omega)]; rfl) (by
            unfold ref45_Litres_L3
            simp only [gd_t (inB_t hi), Int.toNat_natCast, hfe, dec_f (show ¬ (f.length : Int) < (f.length : Int) by omega), cond_false, List.take_length])
        rw [List.take_zero, List.append_nil] at k
        rw [show (0 : Int) = ((0 : Nat) : Int) from rfl, k, Option.bind_some, pcs_take hi, hfe, wi (by omega)]; rfl) (by
        unfold ref45_Litres_L2
        simp only [dec_f (show ¬ (fs.length : Int) < (fs.length : Int) by omega), cond_false, List.take_length])
    rw [List.take_zero] at k
    rw [show ((0 : Int), tabL n []) = (((0 : Nat) : Int), tabL n (pcs [])) from rfl, k]; rfl
theorem at_eq {fs : List (List Pc)} (h : errF fs = 0) (i : Nat) : ref45_at (litF fs) (i : Int) = some (amt (pcs fs) (i : Int)) := by
  have hm1 := mx_ge (pcs fs)
  unfold ref45_at litF
  rw [tabL_len]
  by_cases hi : i < (mxb (pcs fs) + 1).toNat
  · rw [dec_t (show (i : Int) < (((mxb (pcs fs) + 1).toNat : Nat) : Int) by omega), gd_t (inB_t hi), Int.toNat_natCast, tabL_at _ hi]; rfl
  · rw [dec_f (show ¬ (i : Int) < (((mxb (pcs fs) + 1).toNat : Nat) : Int) by omega)]
    have hle := (mx_le (L := pcs fs) (t := mxb (pcs fs))).1 (Int.le_refl _)
    rw [amt_no fun p hp => by have := hle.2 p hp; omega]; rfl
theorem rkept_eq (before after : List (List Pc)) (vin out : List Pc) : ref45_Kept before after vin out = some (keptF before after vin out) := by
  unfold ref45_Kept keptF
  rw [rlit_eq, rlit_eq, rlit_eq, rlit_eq]
  by_cases h1 : errF before = 0
  · by_cases h2 : errF after = 0
    · by_cases h3 : errF [vin] = 0
      · by_cases h4 : errF [out] = 0
        · simp only [if_pos h1, if_pos h2, if_pos h3, if_pos h4, if_neg (not_not_intro h1), if_neg (not_not_intro h2), if_neg (not_not_intro h3), if_neg (not_not_intro h4), Option.bind_some, decide_true, Bool.not_true, cond_false]
          have bd : ∀ {fs : List (List Pc)}, errF fs = 0 → ∀ b, 0 ≤ amt (pcs fs) b ∧ amt (pcs fs) b ≤ 32000000 := fun h b => pcs_amt (errF_ok h).2 (errF_ok h).1 b
          have lens : ∀ {fs : List (List Pc)}, errF fs = 0 → (litF fs).length ≤ 1000 ∧ ∀ i : Nat, (litF fs).length ≤ i → amt (pcs fs) (i : Int) = 0 := fun {fs} h => by
            have hm := mx_in h
            have hm1 := mx_ge (pcs fs)
            have hle := (mx_le (L := pcs fs) (t := mxb (pcs fs))).1 (Int.le_refl _)
            unfold litF
            rw [tabL_len]
            exact ⟨by omega, fun i hi => amt_no fun p hp => by have := hle.2 p hp; omega⟩
          have n1 := lens h1
          have n2 := lens h2
          have n3 := lens h3
          have n4 := lens h4
          have cnd : ∀ i : Nat, (bif decide ((i : Int) < ((litF before).length : Int)) then some true else bif decide ((i : Int) < ((litF after).length : Int)) then some true else bif decide ((i : Int) < ((litF [vin]).length : Int)) then some true else some (decide ((i : Int) < ((litF [out]).length : Int)))) =
              some (decide (i < max (max (litF before).length (litF after).length) (max (litF [vin]).length (litF [out]).length))) := fun i => by
            by_cases c1 : i < (litF before).length
            · rw [dec_t (show (i : Int) < ((litF before).length : Int) by omega), dec_t (show i < max (max (litF before).length (litF after).length) (max (litF [vin]).length (litF [out]).length) by omega)]; rfl
            · rw [dec_f (show ¬ (i : Int) < ((litF before).length : Int) by omega)]
              by_cases c2 : i < (litF after).length
              · rw [dec_t (show (i : Int) < ((litF after).length : Int) by omega), dec_t (show i < max (max (litF before).length (litF after).length) (max (litF [vin]).length (litF [out]).length) by omega)]; rfl
              · rw [dec_f (show ¬ (i : Int) < ((litF after).length : Int) by omega)]
                by_cases c3 : i < (litF [vin]).length
                · rw [dec_t (show (i : Int) < ((litF [vin]).length : Int) by omega), dec_t (show i < max (max (litF before).length (litF after).length) (max (litF [vin]).length (litF [out]).length) by omega)]; rfl
                · rw [dec_f (show ¬ (i : Int) < ((litF [vin]).length : Int) by omega)]
                  simp only [cond_false]
                  congr 1
                  by_cases c4 : i < (litF [out]).length
                  · rw [dec_t (show (i : Int) < ((litF [out]).length : Int) by omega), dec_t (show i < max (max (litF before).length (litF after).length) (max (litF [vin]).length (litF [out]).length) by omega)]
                  · rw [dec_f (show ¬ (i : Int) < ((litF [out]).length : Int) by omega), dec_f (show ¬ i < max (max (litF before).length (litF after).length) (max (litF [vin]).length (litF [out]).length) by omega)]
          generalize hN : max (max (litF before).length (litF after).length) (max (litF [vin]).length (litF [out]).length) = N at cnd
          have hN1 : N ≤ 1000 := by omega
          have k := iter_all (step := fun x => ref45_Kept_L0 (litF before, 0) (litF after, 0) (litF [vin], 0) (litF [out], 0) x) N (fun i => (i : Int)) (fun b => decide (amt (pcs before) (b : Int) + amt (pcs [vin]) (b : Int) = amt (pcs after) (b : Int) + amt (pcs [out]) (b : Int))) (fin := .inl ()) (bad := .inr (false, 0)) (fun i hi _ hp => by
              have b1 := bd h1 i
              have b2 := bd h2 i
              have b3 := bd h3 i
              have b4 := bd h4 i
              unfold ref45_Kept_L0
              simp only [cnd, dec_t hi, Option.bind_some, cond_true, at_eq h1, at_eq h2, at_eq h3, at_eq h4]
              rw [wi (n := amt (pcs before) _ + _) (by omega), wi (n := amt (pcs after) _ + _) (by omega), hp, wi (by omega)]; rfl) (fun i hi _ hp => by
              have b1 := bd h1 i
              have b2 := bd h2 i
              have b3 := bd h3 i
              have b4 := bd h4 i
              unfold ref45_Kept_L0
              simp only [cnd, dec_t hi, Option.bind_some, cond_true, at_eq h1, at_eq h2, at_eq h3, at_eq h4]
              rw [wi (n := amt (pcs before) _ + _) (by omega), wi (n := amt (pcs after) _ + _) (by omega), hp]; rfl) (fun _ => by
              unfold ref45_Kept_L0
              simp only [cnd, dec_f (show ¬ N < N by omega), Option.bind_some, cond_false])
          rw [show (0 : Int) = ((0 : Nat) : Int) from rfl] at k ⊢
          rw [k]
          have e : (List.range N).all (fun b : Nat => decide (amt (pcs before) (b : Int) + amt (pcs [vin]) (b : Int) = amt (pcs after) (b : Int) + amt (pcs [out]) (b : Int))) = balB before after vin out := by
            refine Bool.eq_iff_iff.2 ?_
            unfold balB
            rw [all_range, all_range]
            constructor
            · intro h i hi
              by_cases hiN : i < N
              · exact h i hiN
              · refine dec_t ?_
                rw [n1.2 i (by omega), n2.2 i (by omega), n3.2 i (by omega), n4.2 i (by omega)]
            · intro h i hi; exact h i (by omega)
          rw [e]
          cases balB before after vin out <;> rfl
        · simp only [if_pos h1, if_pos h2, if_pos h3, if_neg h4, if_neg (not_not_intro h1), if_neg (not_not_intro h2), if_neg (not_not_intro h3), if_pos h4, Option.bind_some, decide_true, Bool.not_true, cond_false, dec_f h4, Bool.not_false, cond_true]
      · simp only [if_pos h1, if_pos h2, if_neg h3, if_neg (not_not_intro h1), if_neg (not_not_intro h2), Option.bind_some, decide_true, Bool.not_true, cond_false, dec_f h3, Bool.not_false, cond_true]
        rw [if_pos h3]
    · simp only [if_pos h1, if_neg h2, if_neg (not_not_intro h1), Option.bind_some, decide_true, Bool.not_true, cond_false, dec_f h2, Bool.not_false, cond_true]
      rw [if_pos h2]
  · simp only [if_neg h1, Option.bind_some, dec_f h1, Bool.not_false, cond_true]
    rw [if_pos h1]

/-! ### The litres of the program -/
theorem lit_eq (fs : List (List Pc)) : audit_Litres fs = some (if errF fs = 0 then (0, litF fs) else (errF fs, [])) := by
  unfold audit_Litres
  obtain ⟨M, hM, ht⟩ := counted_eq (fs := fs)
  rw [hM]
  simp only [Option.bind_some]
  by_cases h0 : errF fs = 0
  · rw [dec_t h0, if_pos h0]
    simp only [Bool.not_true, cond_false]
    have T := ht h0
    have hm1 := mx_ge (pcs fs)
    have hm2 := mx_in h0
    have hfs := (errF_ok h0).2
    have hpos := fun p hp => (pcs_ok hfs p hp).2
    have hkey : ∀ b, (∃ p ∈ M, p.1 = b) ↔ ∃ p ∈ pcs fs, p.1 = b := fun b => by
      rw [← amt_pos hpos]
      constructor
      · rintro ⟨p, hp, rfl⟩ h
        have h1 := mem_mget T.srt hp
        rw [T.get, if_pos h] at h1; cases h1
      · intro h
        have h1 := T.get b
        rw [if_neg h] at h1
        exact ⟨_, mget_mem h1, rfl⟩
    have hmx : mxb M = mxb (pcs fs) := by
      have l1 := (mx_le (L := pcs fs) (t := mxb (pcs fs))).1 (Int.le_refl _)
      have l2 := (mx_le (L := M) (t := mxb M)).1 (Int.le_refl _)
      have a1 : mxb M ≤ mxb (pcs fs) := mx_le.2 ⟨hm1, fun p hp => by
        obtain ⟨q, hq, e⟩ := (hkey p.1).1 ⟨p, hp, rfl⟩
        rw [← e]; exact l1.2 q hq⟩
      have a2 : mxb (pcs fs) ≤ mxb M := mx_le.2 ⟨mx_ge M, fun p hp => by
        obtain ⟨q, hq, e⟩ := (hkey p.1).2 ⟨p, hp, rfl⟩
        rw [← e]; exact l2.2 q hq⟩
      omega
    have k1 : iterA (fun x : Int × List Pc => audit_Litres_L0 x.1 x.2) ((-1), ((0, 0) :: M)) = some (mxb (pcs fs)) := by
      refine iterA_inv (fun x => -1 ≤ x.1 ∧ max x.1 (mxb x.2.tail) = mxb (pcs fs)) (fun x => x.2.tail.length) ⟨by simp, ?_⟩ ?_ ?_
      · show max (-1) (mxb M) = _; omega
      · rintro ⟨m, v⟩ _
        unfold audit_Litres_L0
        simp only
        cases h : v.tail with
        | nil => simp [isNilL]
        | cons p r => simp [isNilL, List.range_succ]
      · rintro ⟨m, v⟩ ⟨a1, a2⟩ o ho
        unfold audit_Litres_L0 at ho
        simp only at a1 a2 ho ⊢
        generalize v.tail = L at a2 ho
        cases hL : L with
        | nil =>
          rw [hL] at a2 ho
          simp only [isNilL, cond_true, List.mem_singleton] at ho
          right
          have : m = mxb (pcs fs) := by rw [← a2]; show m = max m (-1); omega
          rw [ho, this]
        | cons p0 r0 =>
          rw [show isNilL L = false by rw [hL]; rfl] at ho
          simp only [cond_false, List.mem_map, List.mem_range] at ho
          obtain ⟨i, hi, rfl⟩ := ho
          left
          have hLi : L[i]? = some (L.getD i (0, 0)) := by rw [List.getD_eq_getElem?_getD, List.getElem?_eq_getElem hi]; rfl
          simp only [pickAt, List.headD_cons]
          refine ⟨_, rfl, ⟨by simp only; omega, ?_⟩, ?_⟩
          · have := mx_erase hLi
            simp only [List.tail_cons]
            omega
          · rw [← hL]
            simp only [List.tail_cons]
            rw [List.length_eraseIdx, if_pos hi]; omega
    rw [k1, Option.bind_some]
    obtain ⟨n, hn⟩ : ∃ n : Nat, mxb (pcs fs) + 1 = (n : Int) := ⟨(mxb (pcs fs) + 1).toNat, by omega⟩
    rw [wi (by omega)]
    unfold litF
    rw [hn, makeG_t (show n * 8 ≤ 281474976710656 by omega), gd_tt, Int.toNat_natCast]
    have k2 : iterA (fun x2 : List Int × List Pc => audit_Litres_L1 x2.1 x2.2) (List.replicate n 0, ((0, 0) :: M)) = some (tabL n (pcs fs)) := by
      have hMs : (M.map (·.1)).Nodup := List.pairwise_map.2 (T.srt.imp fun h => by omega)
      refine iterA_inv (fun x => x.1 = (List.range n).map (fun i : Nat => amt (pcs fs) (i : Int) - amt x.2.tail (i : Int)) ∧ (x.2.tail.map (·.1)).Nodup ∧ ∀ p ∈ x.2.tail, p ∈ M) (fun x => x.2.tail.length) ⟨?_, hMs, fun p hp => hp⟩ ?_ ?_
      · refine ext_gD 0 (by simp) fun k hk => ?_
        rw [List.length_replicate] at hk
        rw [gD_rep _ _ _ _ hk]
        refine Eq.trans ?_ (gD_range (fun i : Nat => amt (pcs fs) (i : Int) - amt M (i : Int)) n k hk).symm
        rw [T.amt]; omega
      · rintro ⟨m, v⟩ _
        unfold audit_Litres_L1
        simp only
        cases h : v.tail with
        | nil => simp [isNilL]
        | cons p r => simp [isNilL, List.range_succ]
      · rintro ⟨m, v⟩ ⟨a1, a2, a3⟩ o ho
        unfold audit_Litres_L1 at ho
        simp only at a1 a2 a3 ho ⊢
        generalize v.tail = L at a1 a2 a3 ho
        cases hL : L with
        | nil =>
          rw [hL] at a1 ho
          simp only [isNilL, cond_true, List.mem_singleton] at ho
          right
          rw [ho, a1]
          congr 2
          unfold tabL
          congr 1
          funext i
          show _ - 0 = _; omega
        | cons p0 r0 =>
          rw [show isNilL L = false by rw [hL]; rfl] at ho
          simp only [cond_false, List.mem_map, List.mem_range] at ho
          obtain ⟨i, hi, rfl⟩ := ho
          left
          have hLi : L[i]? = some (L.getD i (0, 0)) := by rw [List.getD_eq_getElem?_getD, List.getElem?_eq_getElem hi]; rfl
          simp only [pickAt, List.headD_cons]
          generalize L.getD i (0, 0) = p at hLi
          have hpM := a3 p (List.mem_of_getElem? hLi)
          have hp1 : mget keyI M p.1 = some p.2 := mem_mget T.srt hpM
          obtain ⟨q, hq, hqe⟩ := (hkey p.1).1 ⟨p, hpM, rfl⟩
          have hle := ((mx_le (L := pcs fs) (t := mxb (pcs fs))).1 (Int.le_refl _)).2 q hq
          have hq0 := (pcs_ok hfs q hq).1
          obtain ⟨c, hc⟩ : ∃ c : Nat, p.1 = (c : Int) := ⟨p.1.toNat, by omega⟩
          have hcn : c < n := by omega
          have hlen : m.length = n := by rw [a1]; simp
          have hpe := erase_perm hLi
          have hnd := ((hpe.map (·.1)).nodup_iff.1 a2)
          rw [List.map_cons] at hnd
          obtain ⟨d1, d2⟩ := List.nodup_cons.1 hnd
          rw [hc, hlen, gd_t (inB_t hcn), Int.toNat_natCast]
          refine ⟨_, rfl, ⟨?_, d2, fun q hq => a3 q (List.mem_of_mem_eraseIdx hq)⟩, ?_⟩
          · refine ext_gD 0 (by simp [hlen]) fun k hk => ?_
            rw [List.length_set, hlen] at hk
            simp only [List.tail_cons]
            rw [gD_set, hlen, gD_range (fun i' : Nat => amt (pcs fs) (i' : Int) - amt (L.eraseIdx i) (i' : Int)) n k hk]
            have he := amt_erase hLi (k : Int)
            by_cases hck : c = k
            · subst hck
              rw [if_pos ⟨rfl, hcn⟩]
              have z : amt (L.eraseIdx i) (c : Int) = 0 := amt_no fun q hq e => d1 (by rw [hc, ← e]; exact List.mem_map_of_mem hq)
              rw [z, ← T.val, ← hc, hp1]
              show p.2 = p.2 - 0; omega
            · rw [if_neg (fun h => hck h.1), a1, gD_range (fun i' : Nat => amt (pcs fs) (i' : Int) - amt L (i' : Int)) n k hk]
              rw [if_neg (by omega)] at he
              omega
          · rw [← hL]
            simp only [List.tail_cons]
            rw [List.length_eraseIdx, if_pos hi]; omega
    rw [k2]; rfl
  · rw [dec_f h0, if_neg h0]; rfl
end Go.Proofs.Ytnhaphgnpgaocaa
