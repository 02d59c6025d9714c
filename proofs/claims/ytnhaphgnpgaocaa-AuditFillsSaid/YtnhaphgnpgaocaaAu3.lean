/- Litres by batch: maps in the order of their keys; what is counted. No condition. -/
import Derived.Test.YtnhaphgnpgaocaaAu2
namespace Go.Proofs.Ytnhaphgnpgaocaa
open Go Go.Sq

/-! ### Maps in the order of their keys -/
theorem mget_cons (p : Pc) (r : List Pc) (x : Int) : mget keyI (p :: r) x = if x = p.1 then some p.2 else mget keyI r x := by
  show (bif decide (x = p.1) then _ else _) = _
  by_cases h : x = p.1
  · rw [dec_t h, if_pos h]; rfl
  · rw [dec_f h, if_neg h]; rfl
theorem mdel_cons (p : Pc) (r : List Pc) (x : Int) : mdel keyI (p :: r) x = if x = p.1 then r else p :: mdel keyI r x := by
  show (bif decide (x = p.1) then _ else _) = _
  by_cases h : x = p.1
  · rw [dec_t h, if_pos h]; rfl
  · rw [dec_f h, if_neg h]; rfl
theorem mins_cons (p : Pc) (r : List Pc) (x y : Int) : mins keyI (p :: r) x y = if x < p.1 then (x, y) :: p :: r else p :: mins keyI r x y := by
  show (bif decide (x < p.1) then _ else _) = _
  by_cases h : x < p.1
  · rw [dec_t h, if_pos h]; rfl
  · rw [dec_f h, if_neg h]; rfl
abbrev Srt (M : List Pc) : Prop := M.Pairwise fun p q => p.1 < q.1
theorem mget_no_key {M : List Pc} {b : Int} (h : ∀ q ∈ M, q.1 ≠ b) : mget keyI M b = none := by
  induction M with
  | nil => rfl
  | cons p r ih =>
    rw [mget_cons, if_neg (fun e => h p (by simp) e.symm), ih fun q hq => h q (by simp [hq])]
theorem mget_mem {M : List Pc} {b v : Int} (h : mget keyI M b = some v) : (b, v) ∈ M := by
  induction M with
  | nil => cases h
  | cons p r ih =>
    rw [mget_cons] at h
    by_cases hb : b = p.1
    · rw [if_pos hb] at h; injection h with h; subst hb h; simp
    · rw [if_neg hb] at h; exact List.mem_cons_of_mem _ (ih h)
theorem mem_mget {M : List Pc} (hs : Srt M) {p : Pc} (h : p ∈ M) : mget keyI M p.1 = some p.2 := by
  induction M with
  | nil => cases h
  | cons q r ih =>
    rw [mget_cons]
    rcases List.mem_cons.1 h with rfl | h
    · rw [if_pos rfl]
    · have := (List.pairwise_cons.1 hs).1 p h
      rw [if_neg (by omega)]
      exact ih (List.pairwise_cons.1 hs).2 h
theorem none_key {M : List Pc} (hs : Srt M) {b : Int} (h : mget keyI M b = none) : ∀ q ∈ M, q.1 ≠ b := by
  rintro q hq rfl
  rw [mem_mget hs hq] at h; cases h
theorem mdel_sub {M : List Pc} {b : Int} : ∀ q ∈ mdel keyI M b, q ∈ M := by
  induction M with
  | nil => intro q hq; cases hq
  | cons p r ih =>
    intro q hq
    rw [mdel_cons] at hq
    split at hq
    · simp [hq]
    · rcases List.mem_cons.1 hq with rfl | hq
      · simp
      · simp [ih q hq]
theorem srt_mdel {M : List Pc} (h : Srt M) (b : Int) : Srt (mdel keyI M b) := by
  induction M with
  | nil => exact h
  | cons p r ih =>
    obtain ⟨h1, h2⟩ := List.pairwise_cons.1 h
    rw [mdel_cons]
    split
    · exact h2
    · exact List.pairwise_cons.2 ⟨fun q hq => h1 q (mdel_sub q hq), ih h2⟩
theorem mget_mdel {M : List Pc} (h : Srt M) (b x : Int) : mget keyI (mdel keyI M b) x = if x = b then none else mget keyI M x := by
  induction M with
  | nil => show none = _; split <;> rfl
  | cons p r ih =>
    obtain ⟨h1, h2⟩ := List.pairwise_cons.1 h
    rw [mdel_cons, mget_cons]
    by_cases hb : b = p.1
    · rw [if_pos hb]
      by_cases hx : x = b
      · rw [if_pos hx]
        exact mget_no_key fun q hq => by have := h1 q hq; omega
      · rw [if_neg hx, if_neg (by omega)]
    · rw [if_neg hb, mget_cons, ih h2]
      by_cases hx : x = b
      · rw [if_pos hx, if_neg (by omega), if_pos hx]
      · rw [if_neg hx, if_neg hx]
theorem mins_mem {M : List Pc} {b v : Int} {q : Pc} : q ∈ mins keyI M b v ↔ q = (b, v) ∨ q ∈ M := by
  induction M with
  | nil => show q ∈ [(b, v)] ↔ _; simp
  | cons p r ih =>
    rw [mins_cons]
    split
    · simp
    · rw [List.mem_cons, ih, List.mem_cons]
      constructor
      · rintro (h | h | h)
        · exact .inr (.inl h)
        · exact .inl h
        · exact .inr (.inr h)
      · rintro (h | h | h)
        · exact .inr (.inl h)
        · exact .inl h
        · exact .inr (.inr h)
theorem srt_mins {M : List Pc} (h : Srt M) {b v : Int} (hb : ∀ q ∈ M, q.1 ≠ b) : Srt (mins keyI M b v) := by
  induction M with
  | nil => exact List.pairwise_cons.2 ⟨fun q hq => (by cases hq), List.Pairwise.nil⟩
  | cons p r ih =>
    obtain ⟨h1, h2⟩ := List.pairwise_cons.1 h
    rw [mins_cons]
    have hp := hb p (by simp)
    split
    · next hlt =>
      refine List.pairwise_cons.2 ⟨fun q hq => ?_, h⟩
      rcases List.mem_cons.1 hq with rfl | hq
      · exact hlt
      · have := h1 q hq; simp only; omega
    · next hlt =>
      refine List.pairwise_cons.2 ⟨fun q hq => ?_, ih h2 fun q hq => hb q (by simp [hq])⟩
      rcases mins_mem.1 hq with rfl | hq
      · simp only; omega
      · exact h1 q hq
theorem mget_mins {M : List Pc} {b v : Int} (hb : ∀ q ∈ M, q.1 ≠ b) (x : Int) : mget keyI (mins keyI M b v) x = if x = b then some v else mget keyI M x := by
  induction M with
  | nil => show mget keyI [(b, v)] x = _; rw [mget_cons]
  | cons p r ih =>
    have hp := hb p (by simp)
    rw [mins_cons]
    split
    · rw [mget_cons]
    · rw [mget_cons, ih fun q hq => hb q (by simp [hq]), mget_cons]
      by_cases hx : x = b
      · rw [if_pos hx, if_neg (by omega), if_pos hx]
      · rw [if_neg hx, if_neg hx]
theorem srt_uniq : ∀ {M M' : List Pc}, Srt M → Srt M' → (∀ x, mget keyI M x = mget keyI M' x) → M = M'
  | [], [], _, _, _ => rfl
  | [], q :: r, _, _, h => by have := h q.1; rw [mget_cons, if_pos rfl] at this; cases this
  | p :: r, [], _, _, h => by have := h p.1; rw [mget_cons, if_pos rfl] at this; cases this
  | p :: r, q :: s, h1, h2, h => by
    obtain ⟨a1, a2⟩ := List.pairwise_cons.1 h1
    obtain ⟨b1, b2⟩ := List.pairwise_cons.1 h2
    have e1 := h p.1
    rw [mget_cons, if_pos rfl] at e1
    have e2 := h q.1
    rw [mget_cons (p := q), if_pos rfl] at e2
    have m1 := mget_mem e1.symm
    have m2 := mget_mem e2
    have hpq : p.1 = q.1 := by
      have l1 : q.1 ≤ p.1 := by
        rcases List.mem_cons.1 m1 with h | h
        · rw [← h]; exact Int.le_refl _
        · have := b1 _ h; simp only at this; omega
      have l2 : p.1 ≤ q.1 := by
        rcases List.mem_cons.1 m2 with h | h
        · rw [← h]; exact Int.le_refl _
        · have := a1 _ h; simp only at this; omega
      omega
    rw [mget_cons, if_pos hpq] at e1
    injection e1 with e1
    obtain rfl : p = q := Prod.ext hpq e1
    rw [srt_uniq a2 b2 fun x => ?_]
    have := h x
    rw [mget_cons, mget_cons] at this
    by_cases hx : x = p.1
    · rw [mget_no_key (M := r) fun y hy => by have := a1 y hy; omega, mget_no_key (M := s) fun y hy => by have := b1 y hy; omega]
    · rwa [if_neg hx, if_neg hx] at this

/-- A map that says what a function says: no entry is nought. -/
structure Tab (M : List Pc) (g : Int → Int) : Prop where
  srt : Srt M
  get : ∀ x, mget keyI M x = if g x = 0 then none else some (g x)
theorem Tab.nil : Tab [] fun _ => 0 := ⟨List.Pairwise.nil, fun _ => rfl⟩
theorem Tab.uniq {M M' : List Pc} {g g' : Int → Int} (h : Tab M g) (h' : Tab M' g') (e : ∀ x, g x = g' x) : M = M' :=
  srt_uniq h.srt h'.srt fun x => by rw [h.get, h'.get, e]
theorem Tab.cong {M : List Pc} {g g' : Int → Int} (h : Tab M g) (e : ∀ x, g x = g' x) : Tab M g' := ⟨h.srt, fun x => by rw [h.get, e]⟩
theorem Tab.val {M : List Pc} {g : Int → Int} (h : Tab M g) (x : Int) : (mget keyI M x).getD 0 = g x := by
  rw [h.get]
  by_cases hx : g x = 0
  · rw [if_pos hx, hx]; rfl
  · rw [if_neg hx]; rfl
theorem mput_get {M : List Pc} (hs : Srt M) (b v x : Int) : mget keyI (mput keyI M b v) x = if x = b then some v else mget keyI M x := by
  unfold mput
  rw [mget_mins (none_key (srt_mdel hs b) (by rw [mget_mdel hs, if_pos rfl])), mget_mdel hs]
  by_cases hx : x = b
  · rw [if_pos hx, if_pos hx]
  · rw [if_neg hx, if_neg hx, if_neg hx]
theorem srt_mput {M : List Pc} (hs : Srt M) (b v : Int) : Srt (mput keyI M b v) :=
  srt_mins (srt_mdel hs b) (none_key (srt_mdel hs b) (by rw [mget_mdel hs, if_pos rfl]))
theorem Tab.put {M : List Pc} {g : Int → Int} (h : Tab M g) {b v : Int} (hv : v ≠ 0) : Tab (mput keyI M b v) fun x => if x = b then v else g x := by
  refine ⟨srt_mput h.srt b v, fun x => ?_⟩
  rw [mput_get h.srt, h.get]
  by_cases hx : x = b
  · rw [if_pos hx, if_pos hx, if_neg hv]
  · rw [if_neg hx, if_neg hx]
theorem Tab.del {M : List Pc} {g : Int → Int} (h : Tab M g) {b v : Int} : Tab (mdel keyI (mput keyI M b v) b) fun x => if x = b then 0 else g x := by
  refine ⟨srt_mdel (srt_mput h.srt b v) b, fun x => ?_⟩
  rw [mget_mdel (srt_mput h.srt b v), mput_get h.srt, h.get]
  by_cases hx : x = b
  · rw [if_pos hx, if_pos hx, if_pos rfl]
  · rw [if_neg hx, if_neg hx, if_neg hx]
/-- What pieces have of a batch. -/
def amt : List Pc → Int → Int
  | [], _ => 0
  | p :: r, b => (if b = p.1 then p.2 else 0) + amt r b
theorem amt_app (X Y : List Pc) (b : Int) : amt (X ++ Y) b = amt X b + amt Y b := by
  induction X with
  | nil => show _ = 0 + _; rw [Int.zero_add]; rfl
  | cons p r ih => show _ + amt (r ++ Y) b = _ + _ + _; rw [ih, Int.add_assoc]
theorem amt_erase {L : List Pc} {i : Nat} {p : Pc} (h : L[i]? = some p) (b : Int) : amt L b = (if b = p.1 then p.2 else 0) + amt (L.eraseIdx i) b := by
  induction L generalizing i with
  | nil => simp at h
  | cons q r ih =>
    cases i with
    | zero => simp at h; subst h; rfl
    | succ i =>
      have := ih (by simpa using h)
      show _ + amt r b = _ + (_ + amt (r.eraseIdx i) b)
      rw [this]; omega
theorem amt_nn {L : List Pc} (h : ∀ p ∈ L, 0 ≤ p.2) (b : Int) : 0 ≤ amt L b := by
  induction L with
  | nil => exact Int.le_refl _
  | cons p r ih =>
    have h1 := h p (by simp)
    have h2 := ih fun q hq => h q (by simp [hq])
    show 0 ≤ _ + amt r b
    split <;> omega
theorem amt_le {L : List Pc} (h : ∀ p ∈ L, 0 ≤ p.2) (b : Int) : amt L b ≤ tot L := by
  induction L with
  | nil => exact Int.le_refl _
  | cons p r ih =>
    have h1 := h p (by simp)
    have h2 := ih fun q hq => h q (by simp [hq])
    show _ + amt r b ≤ p.2 + tot r
    split <;> omega
theorem amt_pos {L : List Pc} (h : ∀ p ∈ L, 1 ≤ p.2) (b : Int) : amt L b ≠ 0 ↔ ∃ p ∈ L, p.1 = b := by
  induction L with
  | nil => exact ⟨fun h => absurd rfl h, fun ⟨p, hp, _⟩ => by cases hp⟩
  | cons q r ih =>
    have h1 := h q (by simp)
    have h2 := ih fun p hp => h p (by simp [hp])
    have h3 := amt_nn (L := r) (fun p hp => by have := h p (by simp [hp]); omega) b
    show _ + amt r b ≠ 0 ↔ _
    by_cases hb : b = q.1
    · rw [if_pos hb]
      exact ⟨fun _ => ⟨q, by simp, hb.symm⟩, fun _ => by omega⟩
    · rw [if_neg hb, Int.zero_add, h2]
      constructor
      · rintro ⟨p, hp, e⟩; exact ⟨p, by simp [hp], e⟩
      · rintro ⟨p, hp, e⟩
        rcases List.mem_cons.1 hp with rfl | hp
        · exact absurd e.symm hb
        · exact ⟨p, hp, e⟩
theorem Tab.amt {M : List Pc} {g : Int → Int} (h : Tab M g) (x : Int) : Go.Proofs.Ytnhaphgnpgaocaa.amt M x = g x := by
  rw [← h.val x]
  have hs := h.srt
  clear h
  induction M with
  | nil => rfl
  | cons p r ih =>
    obtain ⟨h1, h2⟩ := List.pairwise_cons.1 hs
    show _ + Go.Proofs.Ytnhaphgnpgaocaa.amt r x = _
    rw [ih h2, mget_cons]
    by_cases hx : x = p.1
    · rw [if_pos hx, if_pos hx, mget_no_key fun q hq => by have := h1 q hq; omega]
      show p.2 + 0 = p.2; omega
    · rw [if_neg hx, if_neg hx, Int.zero_add]

/-! ### What is counted -/
def pcs (fs : List (List Pc)) : List Pc := fs.flatten
def errF (fs : List (List Pc)) : Int := if 32 < fs.length then 4 else if fs.all vB = true then 0 else 14
theorem pcs_take {fs : List (List Pc)} {i : Nat} (h : i < fs.length) : pcs (fs.take (i + 1)) = pcs (fs.take i) ++ fs.getD i [] := by
  unfold pcs
  rw [take_next [] h, List.flatten_append]
  simp
theorem pcs_ok {fs : List (List Pc)} (h : ∀ f ∈ fs, VF f) : ∀ p ∈ pcs fs, (0 ≤ p.1 ∧ p.1 ≤ 999) ∧ 1 ≤ p.2 := fun p hp => by
  obtain ⟨f, hf, hp⟩ := List.mem_flatten.1 hp
  exact ⟨((h f hf).rng p hp).1, (h f hf).norm.pos p hp⟩
theorem tot_app' (f g : List Pc) : tot (f ++ g) = tot f + tot g := by unfold tot; rw [List.map_append, isum_app]
theorem pcs_tot {fs : List (List Pc)} (h : ∀ f ∈ fs, VF f) : 0 ≤ tot (pcs fs) ∧ tot (pcs fs) ≤ 1000000 * fs.length := by
  induction fs with
  | nil => exact ⟨by decide, by decide⟩
  | cons f r ih =>
    have h1 := h f (by simp)
    obtain ⟨h2, h3⟩ := ih fun g hg => h g (by simp [hg])
    have h4 := h1.tot
    have h5 := (tot_bd (f := f) (by have := h1.len; omega) h1.vol).1
    show 0 ≤ tot (f ++ pcs r) ∧ tot (f ++ pcs r) ≤ _
    rw [tot_app', List.length_cons]
    omega
theorem pcs_amt {fs : List (List Pc)} (h : ∀ f ∈ fs, VF f) (hl : fs.length ≤ 32) (b : Int) : 0 ≤ amt (pcs fs) b ∧ amt (pcs fs) b ≤ 32000000 := by
  have h1 := fun p hp => (pcs_ok h p hp).2
  have h2 := amt_nn (L := pcs fs) (fun p hp => by have := h1 p hp; omega) b
  have h3 := amt_le (L := pcs fs) (fun p hp => by have := h1 p hp; omega) b
  have h4 := (pcs_tot h).2
  omega
theorem amt_take_le {L : List Pc} (h : ∀ p ∈ L, 0 ≤ p.2) (k : Nat) (b : Int) : amt (L.take k) b ≤ amt L b := by
  conv => rhs; rw [← List.take_append_drop k L]
  rw [amt_app]
  have := amt_nn (L := L.drop k) (fun p hp => h p (List.mem_of_mem_drop hp)) b
  omega
theorem amt_one (p : Pc) (b : Int) : amt [p] b = if b = p.1 then p.2 else 0 := by show _ + (0 : Int) = _; rw [Int.add_zero]

theorem counted_eq {fs : List (List Pc)} : ∃ M, audit_counted fs = some (M, errF fs) ∧ (errF fs = 0 → Tab M (amt (pcs fs))) := by
  unfold audit_counted errF
  by_cases hl : 32 < fs.length
  · rw [dec_t (show (32 : Int) < (fs.length : Int) by omega), if_pos hl]
    exact ⟨[], rfl, fun h => by cases h⟩
  · rw [dec_f (show ¬ (32 : Int) < (fs.length : Int) by omega), if_neg hl]
    simp only [cond_false]
    have hOk : Ok (iter (fun x2 : Int × List Pc => audit_counted_L0 fs x2.1 x2.2) (0, [])) fun r => match r with | .inl M => fs.all vB = true ∧ Tab M (amt (pcs fs)) | .inr z => ¬ fs.all vB = true ∧ z = ([], 14) := by
      refine Ok.loop (fun x => ∃ (i : Nat) (M : List Pc), x = ((i : Int), M) ∧ i ≤ fs.length ∧ (∀ f ∈ fs.take i, VF f) ∧ Tab M (amt (pcs (fs.take i)))) (fun x => (fs.length - x.1).toNat) ⟨0, [], rfl, by omega, by simp, Tab.nil.cong fun _ => rfl⟩ ?_
      rintro _ ⟨i, M, rfl, h1, h2, h3⟩
      unfold audit_counted_L0
      by_cases hi : i < fs.length
      · rw [dec_t (show (i : Int) < (fs.length : Int) by omega)]
        simp only [cond_true, gd_t (inB_t hi), Int.toNat_natCast, (valid_eq _).1, Option.bind_some]
        cases hv : vB (fs.getD i []) with
        | false =>
          refine Ok.ret ⟨fun ha => ?_, rfl⟩
          rw [List.all_eq_true.1 ha _ (gD_mem hi)] at hv; cases hv
        | true =>
          have hf := vB_iff.1 hv
          simp only [Bool.not_true, cond_false]
          generalize hfe : fs.getD i [] = f at hf
          have h2' : ∀ g ∈ fs.take (i + 1), VF g := by
            rw [take_next [] hi, hfe]
            intro g hg
            rcases List.mem_append.1 hg with hg | hg
            · exact h2 g hg
            · rw [List.mem_singleton.1 hg]; exact hf
          have hlt : (fs.take (i + 1)).length ≤ 32 := by rw [List.length_take]; omega
          have hamt := fun b => pcs_amt h2' hlt b
          rw [pcs_take hi, hfe] at hamt
          have key : iter (fun x : Int × List Pc => audit_counted_L1 fs (i : Int) x.1 x.2) (0, M) = iter (fun x : Int × List Pc => audit_counted_L1 fs (i : Int) x.1 x.2) (0, M) := rfl
          refine Ok.bind (Q := fun M' => Tab M' (amt (pcs (fs.take (i + 1))))) ?_ fun M' hM' => ?_
          · refine Ok.loop (fun x => ∃ (k : Nat) (M' : List Pc), x = ((k : Int), M') ∧ k ≤ f.length ∧ Tab M' (amt (pcs (fs.take i) ++ f.take k))) (fun x => (f.length - x.1).toNat) ⟨0, M, rfl, by omega, by rw [List.take_zero, List.append_nil]; exact h3⟩ ?_
            rintro _ ⟨k, M', rfl, k1, k2⟩
            unfold audit_counted_L1
            simp only [Int.toNat_natCast, hfe]
            by_cases hk : k < f.length
            · rw [dec_t (show (k : Int) < (f.length : Int) by omega)]
              simp only [cond_true, gd_t (inB_t hk), k2.val]
              have hq := hf.norm.pos _ (gD_mem (d := pz) hk)
              have hq2 := (hf.rng _ (gD_mem (d := pz) hk)).2
              have hkl := hf.len
              have hb1 := amt_nn (L := pcs (fs.take i) ++ f.take k) (fun p hp => by
                rcases List.mem_append.1 hp with hp | hp
                · have := (pcs_ok h2 p hp).2; omega
                · have := hf.norm.pos p (List.mem_of_mem_take hp); omega) (f.getD k pz).1
              have hb2 : amt (pcs (fs.take i) ++ f.take k) (f.getD k pz).1 ≤ 32000000 := by
                have := (hamt (f.getD k pz).1).2
                have h5 := amt_take_le (L := f) (fun p hp => by have := hf.norm.pos p hp; omega) k (f.getD k pz).1
                rw [amt_app] at this ⊢
                omega
              rw [show ((0, 0) : Pc) = pz from rfl, wi (by omega), wi (by omega)]
              refine Ok.ret ⟨⟨k + 1, _, rfl, by omega, ?_⟩, by simp only; omega⟩
              refine (k2.put (b := (f.getD k pz).1) (v := amt (pcs (fs.take i) ++ f.take k) (f.getD k pz).1 + (f.getD k pz).2) (by omega)).cong fun x => ?_
              rw [take_next pz hk, ← List.append_assoc, amt_app (pcs (fs.take i) ++ f.take k), amt_one]
              by_cases hx : x = (f.getD k pz).1
              · rw [if_pos hx, if_pos hx, hx]
              · rw [if_neg hx, if_neg hx, Int.add_zero]
            · rw [dec_f (show ¬ (k : Int) < (f.length : Int) by omega)]
              refine Ok.ret ?_
              have hkk : k = f.length := by omega
              rw [pcs_take hi, hfe]
              rw [hkk, List.take_length] at k2
              exact k2
          · refine Ok.ret ⟨⟨i + 1, M', ?_, by omega, h2', hM'⟩, by simp only; rw [wi (by omega)]; omega⟩
            rw [wi (by omega)]; rfl
      · rw [dec_f (show ¬ (i : Int) < (fs.length : Int) by omega)]
        have hii : i = fs.length := by omega
        subst hii
        rw [List.take_length] at h2 h3
        exact Ok.ret ⟨List.all_eq_true.2 fun f hf => vB_iff.2 (h2 f hf), h3⟩
    obtain ⟨r, hr, hq⟩ := hOk
    rw [hr]
    cases r with
    | inl M =>
      rw [if_pos hq.1]
      exact ⟨M, rfl, fun _ => hq.2⟩
    | inr z =>
      rw [if_neg hq.1, hq.2]
      exact ⟨[], rfl, fun h => by cases h⟩
end Go.Proofs.Ytnhaphgnpgaocaa
