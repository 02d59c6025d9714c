/- Networks: both checks are one. No condition. -/
import Derived.Test.YtbljipjemhbooaaGreatNk2
namespace Go.Proofs.YtbljipjemhbooaaGreat
open Go Go.Sq
set_option linter.unusedVariables false
theorem known_eq {n : Net} (h : Small n) : network_known n = some (knB n) := by
 obtain ⟨h1, h2, h3, h4, h5, h6⟩ := h
 unfold network_known
 have a1 : ∀ i, (((n.2.1.take i).flatMap fun s => [s.2.1, s.2.2.1]) : List Int).length ≤ 2 * i := by
  intro i
  rw [List.length_flatMap]
  have : ∀ l : List Seg, (l.map fun s => ([s.2.1, s.2.2.1] : List Int).length).sum = 2 * l.length := by
   intro l; induction l with
   | nil => rfl
   | cons x l ih => rw [List.map_cons, List.sum_cons, ih]; show 2 + 2 * l.length = 2 * (l.length + 1); omega
  rw [this, List.length_take]; omega
 have k1 := iter_for (step := fun x : Int × List Int => network_known_L0 n x.1 x.2) n.2.1.length (fun i => ((i : Int), (n.2.1.take i).flatMap fun s => [s.2.1, s.2.2.1])) (e := n.2.1.flatMap fun s => [s.2.1, s.2.2.1]) (fun i hi => by
  unfold network_known_L0
  have := a1 i
  simp only [dec_t (show (i : Int) < (n.2.1.length : Int) by omega), cond_true, gd_t (inB_t hi), Int.toNat_natCast]
  rw [gd_t (fits_t (by omega)), w1 hi (by omega), take_next sg0 hi, List.flatMap_append]; simp) (by
  unfold network_known_L0
  simp only [dec_f (show ¬ (n.2.1.length : Int) < (n.2.1.length : Int) by omega), cond_false]
  rw [List.take_of_length_le (by simp)])
 rw [show ((((0 : Nat) : Int), (n.2.1.take 0).flatMap fun s => [s.2.1, s.2.2.1]) : Int × List Int) = (0, []) from rfl] at k1
 rw [k1, Option.bind_some]
 have a2 := a1 n.2.1.length
 rw [List.take_of_length_le (Nat.le_refl _)] at a2
 generalize hA : (n.2.1.flatMap fun s => [s.2.1, s.2.2.1]) = A at a2
 have k2 := iter_for (step := fun x : Int × List Int => network_known_L1 n x.1 x.2) n.2.2.1.length (fun i => ((i : Int), A ++ (n.2.2.1.map (·.2.1)).take i)) (e := A ++ n.2.2.1.map (·.2.1)) (fun i hi => by
  unfold network_known_L1
  simp only [dec_t (show (i : Int) < (n.2.2.1.length : Int) by omega), cond_true, gd_t (inB_t hi), Int.toNat_natCast]
  rw [gd_t (fits_t (by simp; omega)), w1 hi (by omega), take_next (0 : Int) (by simpa using hi), gD_map (·.2.1) n.2.2.1 i po0 0 hi, List.append_assoc]) (by
  unfold network_known_L1
  simp only [dec_f (show ¬ (n.2.2.1.length : Int) < (n.2.2.1.length : Int) by omega), cond_false]
  rw [List.take_of_length_le (by simp)])
 rw [show ((((0 : Nat) : Int), A ++ (n.2.2.1.map (·.2.1)).take 0) : Int × List Int) = (0, A) by simp] at k2
 rw [k2, Option.bind_some]
 have a3 : (A ++ n.2.2.1.map (·.2.1)).length ≤ 200 := by simp; omega
 generalize hB : A ++ n.2.2.1.map (·.2.1) = B at a3
 have k3 := iter_for (step := fun x : Int × List Int => network_known_L2 n x.1 x.2) n.2.2.2.1.length (fun i => ((i : Int), B ++ (n.2.2.2.1.map (·.2.1)).take i)) (e := B ++ n.2.2.2.1.map (·.2.1)) (fun i hi => by
  unfold network_known_L2
  simp only [dec_t (show (i : Int) < (n.2.2.2.1.length : Int) by omega), cond_true, gd_t (inB_t hi), Int.toNat_natCast]
  rw [gd_t (fits_t (by simp; omega)), w1 hi (by omega), take_next (0 : Int) (by simpa using hi), gD_map (·.2.1) n.2.2.2.1 i sta0 0 hi, List.append_assoc]) (by
  unfold network_known_L2
  simp only [dec_f (show ¬ (n.2.2.2.1.length : Int) < (n.2.2.2.1.length : Int) by omega), cond_false]
  rw [List.take_of_length_le (by simp)])
 rw [show ((((0 : Nat) : Int), B ++ (n.2.2.2.1.map (·.2.1)).take 0) : Int × List Int) = (0, B) by simp] at k3
 rw [k3, Option.bind_some]
 rw [any_int_int _ (fun k => !kn n k) _ (fun x _ => by
  show (network_known_1 x n).bind _ = _
  unfold network_known_1 kn
  have e1 : decide (x < 0) = !decide (0 ≤ x) := by rw [Bool.eq_iff_iff]; simp
  have e2 : decide ((n.1.length : Int) ≤ x) = !decide (x < (n.1.length : Int)) := by rw [Bool.eq_iff_iff]; simp
  rw [e1, e2]
  cases decide (0 ≤ x) <;> cases decide (x < (n.1.length : Int)) <;> rfl) (by simp; omega), Option.bind_some]
 congr 1
 subst hB hA
 unfold knB
 rw [List.all_eq_not_any_not, List.all_eq_not_any_not, List.all_eq_not_any_not]
 rw [List.any_append, List.any_append, List.any_flatMap, List.any_map, List.any_map]
 simp [Function.comp_def, Bool.and_assoc]
theorem pipe_eq {s : Seg} (h1 : 2 ≤ s.2.2.2.2.2.2.length) (h2 : s.2.2.2.2.2.2.length ≤ 8) : network_pipe s = some (pipeB s) := by
 unfold network_pipe pipeB
 have hl : iter (fun x => network_pipe_L0 s x) 0 = some (bif (List.range s.2.2.2.2.2.2.length).all (ptB s.2.2.2.2.2.2) then .inl () else .inr false) := by
  have := iter_all (step := fun x => network_pipe_L0 s x) s.2.2.2.2.2.2.length (fun i => (i : Int)) (ptB s.2.2.2.2.2.2) (fin := .inl ()) (bad := .inr false) (fun i hi _ hq => ?_) (fun i hi _ hq => ?_) (fun _ => ?_)
  ·exact this
  all_goals unfold network_pipe_L0
  ·rw [dec_t (show (i : Int) < (s.2.2.2.2.2.2.length : Int) by omega), cond_true, gd_t (inB_t hi), nin_eq, Option.bind_some, nin_eq, Option.bind_some, Int.toNat_natCast]
   unfold ptB at hq
   simp only [Bool.and_eq_true] at hq
   rw [hq.1, hq.2.1]
   simp only [Bool.not_true, cond_false]
   rcases Nat.eq_zero_or_pos i with rfl | hp
   ·rfl
   ·rw [dec_t (show (0 : Int) < (i : Int) by omega), cond_true, show wi64 ((i : Int) - 1) = ((i - 1 : Nat) : Int) by rw [wi (by omega)]; omega, gd_t (inB_t (show i - 1 < _ by omega)), Int.toNat_natCast, Option.bind_some]
    have h3 := hq.2.2
    simp only [Bool.or_eq_true, decide_eq_true_eq] at h3
    have h3 := h3.resolve_left (fun e => by have := Nat.eq_of_beq_eq_true e; omega)
    rw [dec_f (Int.not_le.2 h3), cond_false, w1 hi (by omega)]
  ·rw [dec_t (show (i : Int) < (s.2.2.2.2.2.2.length : Int) by omega), cond_true, gd_t (inB_t hi), nin_eq, Option.bind_some, nin_eq, Option.bind_some, Int.toNat_natCast]
   unfold ptB at hq
   cases e1 : rg (-500) 5000 (s.2.2.2.2.2.2.getD i pt0).2.1 with
   | false => rfl
   | true =>
    cases e2 : rg 0 100000000 (s.2.2.2.2.2.2.getD i pt0).2.2 with
    | false => rfl
    | true =>
     rw [e1, e2] at hq
     simp only [Bool.true_and, Bool.or_eq_false_iff, decide_eq_false_iff_not] at hq
     have hp : i ≠ 0 := fun e => by rw [e] at hq; cases hq.1
     simp only [Bool.not_true, cond_false]
     rw [dec_t (show (0 : Int) < (i : Int) by omega), cond_true, show wi64 ((i : Int) - 1) = ((i - 1 : Nat) : Int) by rw [wi (by omega)]; omega, gd_t (inB_t (show i - 1 < _ by omega)), Int.toNat_natCast, Option.bind_some, dec_t (Int.not_lt.1 hq.2)]
     rfl
  ·rw [dec_f (by omega)]; rfl
 rw [hl, nin_eq, nin_eq, nin_eq]
 simp only [Option.bind_some]
 cases decide (s.2.1 = s.2.2.1) with
 | true => rfl
 | false =>
 cases rg 1 1000000 s.2.2.2.1 with
 | false => rfl
 | true =>
 cases rg 0 1000 s.2.2.2.2.1 with
 | false => rfl
 | true =>
 cases rg 0 100000 s.2.2.2.2.2.1 with
 | false => rfl
 | true =>
 cases (List.range s.2.2.2.2.2.2.length).all (ptB s.2.2.2.2.2.2) with
 | false => rfl
 | true =>
  show (gd (inB 0 s.2.2.2.2.2.2.length) _) = _
  rw [gd_t (inB0 (by omega)), show wi64 ((s.2.2.2.2.2.2.length : Int) - 1) = ((s.2.2.2.2.2.2.length - 1 : Nat) : Int) by rw [wi (by omega)]; omega, gd_t (inB_t (show s.2.2.2.2.2.2.length - 1 < _ by omega)), Int.toNat_natCast]
  cases decide ((s.2.2.2.2.2.2.getD 0 (0, (0, 0))).1 = 0) <;> rfl
theorem proper_eq {n : Net} (h : Small n) : network_proper n = some (prB n) := by
 obtain ⟨h1, h2, h3, h4, h5, h6⟩ := h
 unfold network_proper prB
 rw [any_api_Segment_api_Segment n.2.1 (fun s => !pipeB s) _ (fun x hx => by show (network_proper_1 x).bind _ = _; unfold network_proper_1; show ((network_pipe x).bind _).bind _ = _; rw [pipe_eq (h6 x hx).1 (h6 x hx).2]; rfl) (by omega), Option.bind_some]
 rw [any_api_Port_api_Port n.2.2.1 (fun p => !rg 0 100000000 p.2.2) _ (fun x hx => by show (network_proper_2 x).bind _ = _; unfold network_proper_2; rw [nin_eq]; rfl) (by omega), Option.bind_some]
 rw [any_api_Station_api_Station n.2.2.2.1 (fun p => !stB p) _ (fun x hx => by
  show (network_proper_3 x).bind _ = _; unfold network_proper_3 stB; rw [nin_eq, nin_eq, nin_eq]
  cases rg 0 100000000 x.2.2.1 <;> cases rg 0 100000 x.2.2.2.1 <;> cases rg 0 100000000 x.2.2.2.2 <;> rfl) (by omega), Option.bind_some, nin_eq, nin_eq]
 rw [List.all_eq_not_any_not, List.all_eq_not_any_not, List.all_eq_not_any_not]
 cases n.2.1.any (fun s => !pipeB s) <;> cases n.2.2.1.any (fun p => !rg 0 100000000 p.2.2) <;> cases n.2.2.2.1.any (fun p => !stB p) <;> cases rg (-100000) 100000000 n.2.2.2.2.1 <;> rfl
theorem netcheck_eq (n : Net) : network_Check n = some (chkNet n) := by
 unfold network_Check chkNet
 show (network_limits n).bind _ = _
 rw [limits_eq, Option.bind_some]
 cases hl : limB n with
 | false => rfl
 | true =>
  have hs := (limB_iff n).1 hl
  show (network_names n).bind _ = _
  rw [names_eq (by have := hs.sg; omega) (by have := hs.po; omega) (by have := hs.st; omega), Option.bind_some]
  rw [forms_eq (by have := hs.no; omega) (by have := hs.sg; simp; omega) (by have := hs.po; simp; omega) (by have := hs.st; simp; omega), Option.bind_some]
  show Sum.elim _ _ (bif formB n then _ else _) = _
  cases formB n with
  | false => rfl
  | true =>
   show (network_twice n).bind _ = _
   rw [twice_eq hs, Option.bind_some]
   cases twB n with
   | true => rfl
   | false =>
    show (network_known n).bind _ = _
    rw [known_eq hs, Option.bind_some]
    cases knB n with
    | false => rfl
    | true =>
     show (network_proper n).bind _ = _
     rw [proper_eq hs, Option.bind_some]
     cases prB n <;> rfl
end Go.Proofs.YtbljipjemhbooaaGreat
