/- Records as bytes: what both writers write. No condition. -/
import Derived.Test.YtnkfkceghbkkkaaGreatWi7
namespace Go.Proofs.YtnkfkceghbkkkaaGreat
open Go Go.Sq
set_option linter.unusedVariables false
def i64A (l : List Int) : Prop := ∀ x ∈ l, -9223372036854775808 ≤ x ∧ x ≤ 9223372036854775807
theorem encs_nil : encs [] = [] := rfl
theorem encs_cons (x : Int) (l : List Int) : encs (x :: l) = encZ x ++ encs l := rfl
theorem encs_app (l m : List Int) : encs (l ++ m) = encs l ++ encs m := by unfold encs; rw [List.map_append, List.flatten_append]
theorem encs_len : ∀ {l : List Int}, i64A l → (encs l).length ≤ 10 * l.length
  | [], _ => by simp [encs_nil]
  | x :: l, h => by
    have h1 := encZ_len (h x (by simp))
    have h2 := encs_len (l := l) fun y hy => h y (by simp [hy])
    rw [encs_cons, List.length_append, List.length_cons]; omega
theorem encs_bytes : ∀ {l : List Int}, bytesP (encs l)
  | [] => by intro x hx; cases hx
  | y :: l => by
    rw [encs_cons]
    intro x hx
    rcases List.mem_append.1 hx with hx | hx
    · exact encZ_bytes y x hx
    · exact encs_bytes x hx
theorem wputs_go {l : List Int} (hl : i64A l) (hn : l.length ≤ 1000) : ∀ (n j : Nat) (v : List Int), j + n = l.length → v.length + 10 * n ≤ 100000 →
    iter (fun x => centre_Encode_1_L0 l x.1 x.2) ((j : Int), v) = some (v ++ encs (l.drop j))
  | 0, j, v, hj, hv => by
    have h1 : centre_Encode_1_L0 l (j : Int) v = some (.inr v) := by unfold centre_Encode_1_L0; rw [dec_f (by omega), cond_false]
    rw [iter_eq]; simp only [h1]
    rw [List.drop_eq_nil_of_le (by omega), encs_nil, List.append_nil]
  | n + 1, j, v, hj, hv => by
    have hj' : j < l.length := by omega
    have hx := hl _ (gD_mem (d := 0) hj')
    have hxl := encZ_len hx
    have h1 : centre_Encode_1_L0 l (j : Int) v = some (.inl (((j + 1 : Nat) : Int), v ++ encZ (l.getD j 0))) := by
      unfold centre_Encode_1_L0
      rw [dec_t (by omega), cond_true, inB_t hj', gd_tt, Int.toNat_natCast, wput_eq hx (by omega), Option.bind_some, show wi64 ((j : Int) + 1) = ((j + 1 : Nat) : Int) by rw [wi (by omega)]; omega]
    rw [iter_eq]; simp only [h1]
    rw [wputs_go hl hn n (j + 1) _ (by omega) (by rw [List.length_append]; omega), List.drop_eq_getElem_cons hj', encs_cons, gD_eq hj', List.append_assoc]
theorem wputs {l v : List Int} (hl : i64A l) (hn : l.length ≤ 1000) (hv : v.length ≤ 50000) : centre_Encode_1 l v = some (v ++ encs l) := by
  unfold centre_Encode_1
  have h := wputs_go hl hn l.length 0 v (by omega) (by omega)
  rw [List.drop_zero] at h
  exact (congrArg (fun o => Option.bind o _) h).trans rfl
theorem rputs_go {l : List Int} (hl : i64A l) (hn : l.length ≤ 1000) : ∀ (n j : Nat) (v : List Int), j + n = l.length → v.length + 10 * n ≤ 100000 →
    iter (fun x => ref41_put_L0 l x.1 x.2) ((j : Int), v) = some (v ++ encs (l.drop j))
  | 0, j, v, hj, hv => by
    have h1 : ref41_put_L0 l (j : Int) v = some (.inr v) := by unfold ref41_put_L0; rw [dec_f (by omega), cond_false]
    rw [iter_eq]; simp only [h1]
    rw [List.drop_eq_nil_of_le (by omega), encs_nil, List.append_nil]
  | n + 1, j, v, hj, hv => by
    have hj' : j < l.length := by omega
    have hx := hl _ (gD_mem (d := 0) hj')
    have hxl := encZ_len hx
    have h1 : ref41_put_L0 l (j : Int) v = some (.inl (((j + 1 : Nat) : Int), v ++ encZ (l.getD j 0))) := by
      unfold ref41_put_L0
      rw [dec_t (by omega), cond_true, inB_t hj', gd_tt, Int.toNat_natCast, rput_eq hx (by omega), Option.bind_some, show wi64 ((j : Int) + 1) = ((j + 1 : Nat) : Int) by rw [wi (by omega)]; omega]
    rw [iter_eq]; simp only [h1]
    rw [rputs_go hl hn n (j + 1) _ (by omega) (by rw [List.length_append]; omega), List.drop_eq_getElem_cons hj', encs_cons, gD_eq hj', List.append_assoc]
theorem rputs {l : List Int} (hl : i64A l) (hn : l.length ≤ 1000) : ref41_put l = some (encs l) := by
  unfold ref41_put
  have h := rputs_go hl hn l.length 0 [] (by omega) (by simp; omega)
  rw [List.drop_zero, List.nil_append] at h
  exact (congrArg (fun o => Option.bind o _) h).trans rfl
def hopL (hs : List (Int × Bool)) : List Int := hs.flatMap fun h => [h.1, bif h.2 then 1 else 0]
theorem hopL_cons (h : Int × Bool) (hs : List (Int × Bool)) : hopL (h :: hs) = [h.1, bif h.2 then 1 else 0] ++ hopL hs := rfl
theorem hopL_len : ∀ (hs : List (Int × Bool)), (hopL hs).length = 2 * hs.length
  | [] => rfl
  | h :: hs => by rw [hopL_cons, List.length_append, hopL_len hs]; simp; omega
def shp (r : Rcd) : List UInt8 := r.2.2.2.1
def hps (r : Rcd) : List (Int × Bool) := r.2.2.1.2.2.2.2.2.1
def recA (r : Rcd) : List Int := [r.1, (r.2.1.length : Int)]
def recB (r : Rcd) : List Int := [r.2.2.1.1, r.2.2.1.2.1, r.2.2.1.2.2.1, r.2.2.1.2.2.2.1, r.2.2.1.2.2.2.2.1, ((hps r).length : Int)]
def recC (r : Rcd) : List Int := [r.2.2.1.2.2.2.2.2.2, r.2.2.2.2.1, r.2.2.2.2.2, ((shp r).length : Int)]
def recL (r : Rcd) : List Int := recA r ++ (r.2.1 ++ (recB r ++ (hopL (hps r) ++ recC r)))
def big (r : Rcd) : Prop := (21 : Int) < (r.2.1.length : Int) ∨ (32 : Int) < ((hps r).length : Int) ∨ (12 : Int) < ((shp r).length : Int)
instance (r : Rcd) : Decidable (big r) := by unfold big; infer_instance
def encR (r : Rcd) : Int × List Int := if big r then (4, []) else (0, encs (recL r) ++ ofBytes (shp r))
theorem or3 {p q s : Prop} [Decidable p] [Decidable q] [Decidable s] {A : Type} (k : Bool → Option A) : ((bif decide p then some true else bif decide q then some true else some (decide s)).bind k) = k (decide (p ∨ q ∨ s)) := by
  by_cases h : p
  · rw [dec_t h, dec_t (p := p ∨ q ∨ s) (Or.inl h)]; rfl
  · rw [dec_f h, cond_false, or2]; congr 1; exact decide_eq_decide.2 ⟨.inr, fun h' => h'.resolve_left h⟩
theorem hopL_i64 {hs : List (Int × Bool)} (h : ∀ x ∈ hs, -9223372036854775808 ≤ x.1 ∧ x.1 ≤ 9223372036854775807) : i64A (hopL hs) := by
  intro x hx
  unfold hopL at hx
  obtain ⟨y, hy, hx⟩ := List.mem_flatMap.1 hx
  rcases List.mem_cons.1 hx with rfl | hx
  · exact h y hy
  · rw [List.mem_singleton.1 hx]; cases y.2 <;> decide
theorem i64_one {h : Int × Bool} (hh : -9223372036854775808 ≤ h.1 ∧ h.1 ≤ 9223372036854775807) : i64A [h.1, bif h.2 then 1 else 0] := by
  intro x hx
  rcases List.mem_cons.1 hx with rfl | hx
  · exact hh
  · rw [List.mem_singleton.1 hx]; cases h.2 <;> decide
theorem whop_go (r : Rcd) (hh : ∀ x ∈ hps r, -9223372036854775808 ≤ x.1 ∧ x.1 ≤ 9223372036854775807) (hn : (hps r).length ≤ 100) : ∀ (n j : Nat) (v : List Int), j + n = (hps r).length → v.length + 20 * n ≤ 40000 →
    iter (fun x => centre_Encode_L0 r x.1 x.2) ((j : Int), v) = some (v ++ encs (hopL ((hps r).drop j)))
  | 0, j, v, hj, hv => by
    have h1 : centre_Encode_L0 r (j : Int) v = some (.inr v) := by
      unfold centre_Encode_L0; rw [dec_f (by show ¬ (j : Int) < ((hps r).length : Int); omega), cond_false]
    rw [iter_eq]; simp only [h1]
    rw [List.drop_eq_nil_of_le (by omega)]; simp [hopL, encs_nil]
  | n + 1, j, v, hj, hv => by
    have hj' : j < (hps r).length := by omega
    have hx := hh _ (gD_mem (d := (0, false)) hj')
    have hi := i64_one hx
    have hxl := encs_len hi
    simp only [List.length_cons, List.length_nil] at hxl
    have h1 : centre_Encode_L0 r (j : Int) v = some (.inl (((j + 1 : Nat) : Int), v ++ encs [((hps r).getD j (0, false)).1, bif ((hps r).getD j (0, false)).2 then 1 else 0])) := by
      unfold centre_Encode_L0
      rw [dec_t (by show (j : Int) < ((hps r).length : Int); omega), cond_true, show inB (j : Int) r.2.2.1.2.2.2.2.2.1.length = true from inB_t hj', gd_tt, Int.toNat_natCast]
      show ((bif ((hps r).getD j (0, false)).2 then some ((1 : Int), v) else some (0, v)).bind fun s3 : Int × List Int => (centre_Encode_1 [((hps r).getD j (0, false)).1, s3.1] s3.2).bind fun r5 => some ((Sum.inl (wi64 ((j : Int) + 1), r5)) : (Int × List Int) ⊕ List Int)) = _
      generalize (hps r).getD j (0, false) = y at hi hxl ⊢
      obtain ⟨a, c⟩ := y
      cases c
      · simp only [cond_false, Option.bind_some]
        rw [show centre_Encode_1 [a, 0] v = some (v ++ encs [a, 0]) from wputs (l := [a, 0]) hi (by simp) (by omega), Option.bind_some, show wi64 ((j : Int) + 1) = ((j + 1 : Nat) : Int) by rw [wi (by omega)]; omega]
      · simp only [cond_true, Option.bind_some]
        rw [show centre_Encode_1 [a, 1] v = some (v ++ encs [a, 1]) from wputs (l := [a, 1]) hi (by simp) (by omega), Option.bind_some, show wi64 ((j : Int) + 1) = ((j + 1 : Nat) : Int) by rw [wi (by omega)]; omega]
    rw [iter_eq]; simp only [h1]
    rw [whop_go r hh hn n (j + 1) _ (by omega) (by simp only [List.length_append]; omega), List.drop_eq_getElem_cons hj', hopL_cons, encs_app, gD_eq hj', List.append_assoc]
theorem rhop_go (r : Rcd) (hn : (hps r).length ≤ 100) : ∀ (n j : Nat) (v : List Int), j + n = (hps r).length → v.length + 2 * n ≤ 4000 →
    iter (fun x => ref41_Encode_L0 r x.1 x.2) ((j : Int), v) = some (v ++ hopL ((hps r).drop j))
  | 0, j, v, hj, hv => by
    have h1 : ref41_Encode_L0 r (j : Int) v = some (.inr v) := by
      unfold ref41_Encode_L0; rw [dec_f (by show ¬ (j : Int) < ((hps r).length : Int); omega), cond_false]
    rw [iter_eq]; simp only [h1]
    rw [List.drop_eq_nil_of_le (by omega)]; simp [hopL]
  | n + 1, j, v, hj, hv => by
    have hj' : j < (hps r).length := by omega
    have h1 : ref41_Encode_L0 r (j : Int) v = some (.inl (((j + 1 : Nat) : Int), v ++ [((hps r).getD j (0, false)).1, bif ((hps r).getD j (0, false)).2 then 1 else 0])) := by
      unfold ref41_Encode_L0
      have hB : inB (j : Int) r.2.2.1.2.2.2.2.2.1.length = true := inB_t hj'
      rw [dec_t (by show (j : Int) < ((hps r).length : Int); omega), cond_true, hB, gd_tt, Int.toNat_natCast]
      show ((bif ((hps r).getD j (0, false)).2 then some ((1 : Int), v) else some (0, v)).bind fun s3 : Int × List Int => gd true (gd (fits (s3.2.length + 2) 8) (some ((Sum.inl (wi64 ((j : Int) + 1), s3.2 ++ [((hps r).getD j (0, false)).1, s3.1])) : (Int × List Int) ⊕ List Int)))) = _
      generalize (hps r).getD j (0, false) = y
      obtain ⟨a, c⟩ := y
      cases c
      · simp only [cond_false, Option.bind_some, gd_tt]
        rw [fits_t (by omega), gd_tt, show wi64 ((j : Int) + 1) = ((j + 1 : Nat) : Int) by rw [wi (by omega)]; omega]
      · simp only [cond_true, Option.bind_some, gd_tt]
        rw [fits_t (by omega), gd_tt, show wi64 ((j : Int) + 1) = ((j + 1 : Nat) : Int) by rw [wi (by omega)]; omega]
    rw [iter_eq]; simp only [h1]
    rw [rhop_go r hn n (j + 1) _ (by omega) (by simp only [List.length_append, List.length_cons, List.length_nil]; omega), List.drop_eq_getElem_cons hj', hopL_cons, gD_eq hj', List.append_assoc]
theorem i64A_app {l m : List Int} : i64A (l ++ m) ↔ i64A l ∧ i64A m := by
  unfold i64A; constructor
  · intro h; exact ⟨fun x hx => h x (by simp [hx]), fun x hx => h x (by simp [hx])⟩
  · rintro ⟨h1, h2⟩ x hx
    rcases List.mem_append.1 hx with hx | hx
    · exact h1 x hx
    · exact h2 x hx
theorem wenc {r : Rcd} (hr : i64A (recL r)) (hh : ∀ x ∈ hps r, -9223372036854775808 ≤ x.1 ∧ x.1 ≤ 9223372036854775807) : centre_Encode r = some (encR r) := by
  unfold centre_Encode encR
  rw [or3]
  by_cases h : big r
  · rw [if_pos h, show decide (21 < (r.2.1.length : Int) ∨ 32 < (r.2.2.1.2.2.2.2.2.1.length : Int) ∨ 12 < (r.2.2.2.1.length : Int)) = true from dec_t h]; rfl
  · rw [if_neg h, show decide (21 < (r.2.1.length : Int) ∨ 32 < (r.2.2.1.2.2.2.2.2.1.length : Int) ∨ 12 < (r.2.2.2.1.length : Int)) = false from dec_f h]
    simp only [big, not_or] at h
    obtain ⟨h1, h2, h3⟩ := h
    obtain ⟨iA, hr⟩ := i64A_app.1 hr
    obtain ⟨iV, hr⟩ := i64A_app.1 hr
    obtain ⟨iB, hr⟩ := i64A_app.1 hr
    obtain ⟨iH, iC⟩ := i64A_app.1 hr
    have lA := encs_len iA
    have lV := encs_len iV
    have lB := encs_len iB
    have lH := encs_len iH
    have lC := encs_len iC
    rw [hopL_len] at lH
    have pA : 0 < (encs (recA r)).length := by unfold recA; rw [encs_cons, List.length_append]; have := enc_pos (zg r.1); unfold encZ; omega
    have sA : (recA r).length = 2 := rfl
    have sB : (recB r).length = 6 := rfl
    have sC : (recC r).length = 4 := rfl
    simp only [cond_false, Option.bind_some]
    have e1 : centre_Encode_1 [r.1, (r.2.1.length : Int)] [] = some (encs (recA r)) := wputs (l := recA r) (v := []) iA (by omega) (by simp)
    have e2 : centre_Encode_1 r.2.1 (encs (recA r)) = some (encs (recA r) ++ encs r.2.1) := wputs iV (by omega) (by omega)
    have e3 : centre_Encode_1 [r.2.2.1.1, r.2.2.1.2.1, r.2.2.1.2.2.1, r.2.2.1.2.2.2.1, r.2.2.1.2.2.2.2.1, (r.2.2.1.2.2.2.2.2.1.length : Int)] (encs (recA r) ++ encs r.2.1) = some ((encs (recA r) ++ encs r.2.1) ++ encs (recB r)) := wputs (l := recB r) iB (by omega) (by rw [List.length_append]; omega)
    have e4 := whop_go r hh (by omega) (hps r).length 0 ((encs (recA r) ++ encs r.2.1) ++ encs (recB r)) (by omega) (by simp only [List.length_append]; omega)
    rw [List.drop_zero] at e4
    replace e4 : iter (fun x => centre_Encode_L0 r x.1 x.2) (0, (encs (recA r) ++ encs r.2.1) ++ encs (recB r)) = _ := e4
    have e5 : centre_Encode_1 [r.2.2.1.2.2.2.2.2.2, r.2.2.2.2.1, r.2.2.2.2.2, (r.2.2.2.1.length : Int)] (((encs (recA r) ++ encs r.2.1) ++ encs (recB r)) ++ encs (hopL (hps r))) = some ((((encs (recA r) ++ encs r.2.1) ++ encs (recB r)) ++ encs (hopL (hps r))) ++ encs (recC r)) := wputs (l := recC r) iC (by omega) (by simp only [List.length_append]; omega)
    simp only [e1, e2, e3, e4, e5, Option.bind_some]
    have eq : (((encs (recA r) ++ encs r.2.1) ++ encs (recB r)) ++ encs (hopL (hps r))) ++ encs (recC r) = encs (recL r) := by unfold recL; simp only [encs_app, List.append_assoc]
    have hg : (Nat.blt 0 (((((encs (recA r) ++ encs r.2.1) ++ encs (recB r)) ++ encs (hopL (hps r))) ++ encs (recC r)).length + r.2.2.2.1.length) && fits (((((encs (recA r) ++ encs r.2.1) ++ encs (recB r)) ++ encs (hopL (hps r))) ++ encs (recC r)).length + r.2.2.2.1.length) 1) = true := by
      have hs : r.2.2.2.1.length = (shp r).length := rfl
      rw [Bool.and_eq_true, Nat.blt_eq]
      exact ⟨by simp only [List.length_append]; omega, fits_t (by simp only [List.length_append, hs]; omega)⟩
    rw [hg, gd_tt, eq]; rfl
theorem renc {r : Rcd} (hr : i64A (recL r)) : ref41_Encode r = some (encR r) := by
  unfold ref41_Encode encR
  rw [or3]
  by_cases h : big r
  · rw [if_pos h, show decide (21 < (r.2.1.length : Int) ∨ 32 < (r.2.2.1.2.2.2.2.2.1.length : Int) ∨ 12 < (r.2.2.2.1.length : Int)) = true from dec_t h]; rfl
  · rw [if_neg h, show decide (21 < (r.2.1.length : Int) ∨ 32 < (r.2.2.1.2.2.2.2.2.1.length : Int) ∨ 12 < (r.2.2.2.1.length : Int)) = false from dec_f h]
    simp only [big, not_or] at h
    obtain ⟨h1, h2, h3⟩ := h
    have lL := encs_len hr
    have sA : (recA r).length = 2 := rfl
    have sB : (recB r).length = 6 := rfl
    have sC : (recC r).length = 4 := rfl
    have sH := hopL_len (hps r)
    have sL : (recL r).length = 12 + r.2.1.length + 2 * (hps r).length := by unfold recL; simp only [List.length_append]; omega
    have pA : 0 < (encs (recL r)).length := by unfold recL recA; rw [List.cons_append, encs_cons, List.length_append]; have := enc_pos (zg r.1); unfold encZ; omega
    simp only [cond_false]
    have e4 := rhop_go r (by omega) (hps r).length 0 ((recA r ++ r.2.1) ++ recB r) (by omega) (by simp only [List.length_append]; omega)
    rw [List.drop_zero] at e4
    replace e4 : iter (fun x => ref41_Encode_L0 r x.1 x.2) (0, ([r.1, (r.2.1.length : Int)] ++ r.2.1) ++ [r.2.2.1.1, r.2.2.1.2.1, r.2.2.1.2.2.1, r.2.2.1.2.2.2.1, r.2.2.1.2.2.2.2.1, (r.2.2.1.2.2.2.2.2.1.length : Int)]) = some (((recA r ++ r.2.1) ++ recB r) ++ hopL (hps r)) := e4
    have eq : (((recA r ++ r.2.1) ++ recB r) ++ hopL (hps r)) ++ recC r = recL r := by unfold recL; simp only [List.append_assoc]
    have e5 : ref41_put ((((recA r ++ r.2.1) ++ recB r) ++ hopL (hps r)) ++ [r.2.2.1.2.2.2.2.2.2, r.2.2.2.2.1, r.2.2.2.2.2, (r.2.2.2.1.length : Int)]) = some (encs (recL r)) := (congrArg ref41_put eq).trans (rputs hr (by omega))
    rw [fits_t (by omega), gd_tt, fits_t (by simp only [List.length_append, List.length_cons, List.length_nil]; omega), gd_tt]
    simp only [e4, Option.bind_some]
    rw [fits_t (by simp only [List.length_append]; omega), gd_tt]
    simp only [e5, Option.bind_some]
    have hs : r.2.2.2.1.length = (shp r).length := rfl
    have hg : (Nat.blt 0 ((encs (recL r)).length + r.2.2.2.1.length) && fits ((encs (recL r)).length + r.2.2.2.1.length) 1) = true := by
      rw [Bool.and_eq_true, Nat.blt_eq]
      exact ⟨by omega, fits_t (by omega)⟩
    rw [hg, gd_tt]; rfl
end Go.Proofs.YtnkfkceghbkkkaaGreat
