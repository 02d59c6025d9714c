/- The reference reads a line. No condition. -/
import Derived.Test.YtpgigbdefbeagaaGreatDoorNq4
import Derived.Test.YtpgigbdefbeagaaGreatDoorPr6
namespace Go.Proofs.YtpgigbdefbeagaaGreatDoor
open Go Go.Sq
theorem qlc (s : List Str) (v : Str) (hl : s.length ≤ 1000000) : qek s v = some (qam s v) := by
 unfold qek
 have e : (fun y => decide (v = y)) = fun y : Str => decide (y = v) := by funext y; exact decide_eq_decide.2 eq_comm
 have h : iter (fun x => qcp s v x) 0 = some (if s.findIdx (fun y => decide (v = y)) < s.length then .inr ((s.findIdx (fun y => decide (v = y)) : Nat) : Int) else .inl ()) := by
  rw [e]
  refine qdU (step := fun y => qcp s v y) (ε := Unit ⊕ Int) s [] (fun x => decide (x = v)) (fin := .inl ()) (fun i => .inr (i : Int)) (fun i hi hq => ?_) (fun i hi hq => ?_) ?_
  ·unfold qcp
   rw [dec_t (show (i : Int) < (s.length : Int) by omega), cond_true, gd_t (inB_t hi), Int.toNat_natCast, hq, cond_false, w1 hi (by omega)]
  ·unfold qcp
   rw [dec_t (show (i : Int) < (s.length : Int) by omega), cond_true, gd_t (inB_t hi), Int.toNat_natCast, hq, cond_true]
  ·unfold qcp
   rw [dec_f (by omega)]; rfl
 rw [h, Option.bind_some]
 unfold qam
 by_cases hf : s.findIdx (fun x => decide (v = x)) < s.length
 ·rw [if_pos hf, if_pos hf]; rfl
 ·rw [if_neg hf, if_neg hf]; rfl
theorem qsK (l : List Str) (x : Str) (hl : l.length ≤ 1000000) : qdS l x = some (qam l x) := by
 unfold qdS
 rw [qlc l x hl]; rfl
def numF (F : Str) (w : List Str) (i : Nat) : List Int := ((List.range i).filter fun j => F.getD j 0 == 110).map fun j => (qfG (w.getD (j + 1) [])).1
def okF (F : Str) (w : List Str) (i : Nat) : Bool := !(F.getD i 0 == 110) || okN (w.getD (i + 1) [])
def atF (F : Str) (nodes w : List Str) (i : Nat) : List Int := ((List.range i).filter fun j => F.getD j 0 == 111).map fun j => qam nodes (w.getD (j + 1) [])
def knF (F : Str) (nodes w : List Str) (i : Nat) : Bool := !(F.getD i 0 == 111) || !decide (qam nodes (w.getD (i + 1) []) < 0)
theorem qn5 {p : Nat → Bool} {A : Type} {f : Nat → A} (i : Nat) : (((List.range i).filter p).map f).length ≤ i := by
 rw [List.length_map]
 exact Nat.le_trans (List.length_filter_le _ _) (by rw [List.length_range]; exact Nat.le_refl _)
section
variable {r : List (List Str) × Int} {r2 : List Str × List Str} {v r3 : Int} {w : List Str} {F : Str} {v2 : List Str} {v3 : List Seg} {v4 : List Port} {v5 : List Stat} {v6 v7 a b : Int} {nodes : List Str} {segs : List Seg} {ports : List Port} {stats : List Stat}
theorem rnums (hw : r.1.getD v.toNat [] = w) (hF : r2.2.getD r3.toNat [] = F) (h3 : inB r3 r2.2.length = true) (hl : w.length = F.length + 1) (hlen : w.length ≤ 1000) (hx : ∀ x ∈ w, x.length ≤ 1000000) {v1 : Int} (hv : wi64 (v + 1) = v1) :
  iter (fun x2 => qbu r r2 v r3 x2.1 x2.2.1 x2.2.2.1 x2.2.2.2.1 x2.2.2.2.2.1 x2.2.2.2.2.2.1 x2.2.2.2.2.2.2.1 x2.2.2.2.2.2.2.2.1 x2.2.2.2.2.2.2.2.2.1 x2.2.2.2.2.2.2.2.2.2.1 x2.2.2.2.2.2.2.2.2.2.2.1 x2.2.2.2.2.2.2.2.2.2.2.2.1 x2.2.2.2.2.2.2.2.2.2.2.2.2.1 x2.2.2.2.2.2.2.2.2.2.2.2.2.2) (1, v2, v3, v4, v5, v6, v7, a, b, [], nodes, segs, ports, stats) =
   some (bif (List.range F.length).all (okF F w) then .inl (v2, v3, v4, v5, v6, v7, a, b, numF F w F.length, nodes, segs, ports, stats) else .inr (v1, 3, [], [], [], [], 0, 0)) := by
 have step : ∀ i, i < F.length → qbu r r2 v r3 (((i + 1 : Nat) : Int)) v2 v3 v4 v5 v6 v7 a b (numF F w i) nodes segs ports stats = bif okF F w i then some (.inl ((((i + 1) + 1 : Nat) : Int), v2, v3, v4, v5, v6, v7, a, b, numF F w (i + 1), nodes, segs, ports, stats)) else some (.inr (.inr (v1, 3, [], [], [], [], 0, 0))) := by
  intro i hi
  have hw1 : wi64 (((i + 1 : Nat) : Int) - 1) = ((i : Nat) : Int) := by rw [wi (by omega)]; omega
  have hw2 : wi64 (((i + 1 : Nat) : Int) + 1) = (((i + 1) + 1 : Nat) : Int) := by rw [wi (by omega)]; omega
  have hnl : (numF F w i).length ≤ i := qn5 i
  unfold qbu
  rw [hw, hF, hw1, Int.toNat_natCast, Int.toNat_natCast, dec_t (by omega), cond_true, gd_t h3, gd_t (inB_t hi), eqU _ 110 110 rfl, hv]
  have hnext : numF F w (i + 1) = bif F.getD i 0 == 110 then numF F w i ++ [(qfG (w.getD (i + 1) [])).1] else numF F w i := by
   unfold numF
   rw [List.range_succ, List.filter_append, List.map_append]
   cases hc : F.getD i 0 == 110 with
   | true => rw [List.filter_cons_of_pos (by simpa using hc)]; rfl
   | false => rw [List.filter_cons_of_neg (by simpa using hc)]; simp
  rw [hnext]
  unfold okF
  cases hc : F.getD i 0 == 110 with
  | false => simp only [cond_false, Bool.not_false, Bool.true_or, cond_true, Option.bind_some, Sum.elim_inl]; rw [hw2]
  | true =>
   have hmem := hx _ (qaC (d := ([] : Str)) (show i + 1 < w.length by omega))
   rw [cond_true, gd_t (inB_t (by omega)), qsC _ hmem, Option.bind_some]
   unfold okN
   cases hd : decide ((qfG (w.getD (i + 1) [])).2 = 0) with
   | false => rfl
   | true =>
    rw [Bool.not_true, cond_false, gd_t (qaz (by omega)), Option.bind_some]
    simp only [Sum.elim_inl, cond_true, Bool.or_true]
    rw [hw2]
 have key := qci (step := fun x2 : Int × List Str × List Seg × List Port × List Stat × Int × Int × Int × Int × List Int × List Str × List Seg × List Port × List Stat => qbu r r2 v r3 x2.1 x2.2.1 x2.2.2.1 x2.2.2.2.1 x2.2.2.2.2.1 x2.2.2.2.2.2.1 x2.2.2.2.2.2.2.1 x2.2.2.2.2.2.2.2.1 x2.2.2.2.2.2.2.2.2.1 x2.2.2.2.2.2.2.2.2.2.1 x2.2.2.2.2.2.2.2.2.2.2.1 x2.2.2.2.2.2.2.2.2.2.2.2.1 x2.2.2.2.2.2.2.2.2.2.2.2.2.1 x2.2.2.2.2.2.2.2.2.2.2.2.2.2) F.length
  (fun i => (((i + 1 : Nat) : Int), v2, v3, v4, v5, v6, v7, a, b, numF F w i, nodes, segs, ports, stats)) (okF F w) (fin := .inl (v2, v3, v4, v5, v6, v7, a, b, numF F w F.length, nodes, segs, ports, stats)) (bad := .inr (v1, 3, [], [], [], [], 0, 0))
  (fun i hi _ hp => by have := step i hi; rw [hp] at this; exact this) (fun i hi _ hp => by have := step i hi; rw [hp] at this; exact this) (fun _ => by
   show qbu r r2 v r3 (((F.length + 1 : Nat) : Int)) v2 v3 v4 v5 v6 v7 a b (numF F w F.length) nodes segs ports stats = _
   unfold qbu
   rw [hw, dec_f (by omega)]; rfl)
 exact key
theorem rats (hw : r.1.getD v.toNat [] = w) (hF : r2.2.getD r3.toNat [] = F) (h3 : inB r3 r2.2.length = true) (hl : w.length = F.length + 1) (hlen : w.length ≤ 1000) (hn : nodes.length ≤ 1000000) {v1 : Int} (hv : wi64 (v + 1) = v1) {m : List Int} :
  iter (fun x4 => qbv r r2 v r3 x4.1 x4.2.1 x4.2.2.1 x4.2.2.2.1 x4.2.2.2.2.1 x4.2.2.2.2.2.1 x4.2.2.2.2.2.2.1 x4.2.2.2.2.2.2.2.1 x4.2.2.2.2.2.2.2.2.1 x4.2.2.2.2.2.2.2.2.2.1 x4.2.2.2.2.2.2.2.2.2.2.1 x4.2.2.2.2.2.2.2.2.2.2.2.1 x4.2.2.2.2.2.2.2.2.2.2.2.2.1 x4.2.2.2.2.2.2.2.2.2.2.2.2.2.1 x4.2.2.2.2.2.2.2.2.2.2.2.2.2.2) (1, v2, v3, v4, v5, v6, v7, a, b, m, [], nodes, segs, ports, stats) =
   some (bif (List.range F.length).all (knF F nodes w) then .inl (v2, v3, v4, v5, v6, v7, a, b, m, atF F nodes w F.length, nodes, segs, ports, stats) else .inr (v1, 8, [], [], [], [], 0, 0)) := by
 have step : ∀ i, i < F.length → qbv r r2 v r3 (((i + 1 : Nat) : Int)) v2 v3 v4 v5 v6 v7 a b m (atF F nodes w i) nodes segs ports stats = bif knF F nodes w i then some (.inl ((((i + 1) + 1 : Nat) : Int), v2, v3, v4, v5, v6, v7, a, b, m, atF F nodes w (i + 1), nodes, segs, ports, stats)) else some (.inr (.inr (v1, 8, [], [], [], [], 0, 0))) := by
  intro i hi
  have hw1 : wi64 (((i + 1 : Nat) : Int) - 1) = ((i : Nat) : Int) := by rw [wi (by omega)]; omega
  have hw2 : wi64 (((i + 1 : Nat) : Int) + 1) = (((i + 1) + 1 : Nat) : Int) := by rw [wi (by omega)]; omega
  have hnl : (atF F nodes w i).length ≤ i := qn5 i
  unfold qbv
  rw [hw, hF, hw1, Int.toNat_natCast, Int.toNat_natCast, dec_t (by omega), cond_true, gd_t h3, gd_t (inB_t hi), eqU _ 111 111 rfl, hv]
  have hnext : atF F nodes w (i + 1) = bif F.getD i 0 == 111 then atF F nodes w i ++ [qam nodes (w.getD (i + 1) [])] else atF F nodes w i := by
   unfold atF
   rw [List.range_succ, List.filter_append, List.map_append]
   cases hc : F.getD i 0 == 111 with
   | true => rw [List.filter_cons_of_pos (by simpa using hc)]; rfl
   | false => rw [List.filter_cons_of_neg (by simpa using hc)]; simp
  rw [hnext]
  unfold knF
  cases hc : F.getD i 0 == 111 with
  | false => simp only [cond_false, Bool.not_false, Bool.true_or, cond_true, Option.bind_some, Sum.elim_inl]; rw [hw2]
  | true =>
   rw [cond_true, gd_t (inB_t (by omega)), qsK _ _ hn, Option.bind_some]
   cases hd : decide (qam nodes (w.getD (i + 1) []) < 0) with
   | true => rfl
   | false =>
    rw [cond_false, gd_t (inB_t (by omega)), Option.bind_some, gd_t (qaz (by omega)), Option.bind_some]
    simp only [Sum.elim_inl, cond_true, Bool.or_true, Bool.not_false]
    rw [hw2]
 have key := qci (step := fun x4 : Int × List Str × List Seg × List Port × List Stat × Int × Int × Int × Int × List Int × List Int × List Str × List Seg × List Port × List Stat => qbv r r2 v r3 x4.1 x4.2.1 x4.2.2.1 x4.2.2.2.1 x4.2.2.2.2.1 x4.2.2.2.2.2.1 x4.2.2.2.2.2.2.1 x4.2.2.2.2.2.2.2.1 x4.2.2.2.2.2.2.2.2.1 x4.2.2.2.2.2.2.2.2.2.1 x4.2.2.2.2.2.2.2.2.2.2.1 x4.2.2.2.2.2.2.2.2.2.2.2.1 x4.2.2.2.2.2.2.2.2.2.2.2.2.1 x4.2.2.2.2.2.2.2.2.2.2.2.2.2.1 x4.2.2.2.2.2.2.2.2.2.2.2.2.2.2) F.length
  (fun i => (((i + 1 : Nat) : Int), v2, v3, v4, v5, v6, v7, a, b, m, atF F nodes w i, nodes, segs, ports, stats)) (knF F nodes w) (fin := .inl (v2, v3, v4, v5, v6, v7, a, b, m, atF F nodes w F.length, nodes, segs, ports, stats)) (bad := .inr (v1, 8, [], [], [], [], 0, 0))
  (fun i hi _ hp => by have := step i hi; rw [hp] at this; exact this) (fun i hi _ hp => by have := step i hi; rw [hp] at this; exact this) (fun _ => by
   show qbv r r2 v r3 (((F.length + 1 : Nat) : Int)) v2 v3 v4 v5 v6 v7 a b m (atF F nodes w F.length) nodes segs ports stats = _
   unfold qbv
   rw [hw, dec_f (by omega)]; rfl)
 exact key
end
end Go.Proofs.YtpgigbdefbeagaaGreatDoor
namespace Go.Proofs.YtpgigbdefbeagaaGreatDoor
open Go Go.Sq
abbrev KK : List Str × List Str := ([[110, 101, 116, 119, 111, 114, 107], [110, 111, 100, 101], [115, 101, 103, 109, 101, 110, 116], [112, 111, 105, 110, 116], [112, 111, 114, 116], [115, 116, 97, 116, 105, 111, 110]], [[110, 110], [45], [45, 111, 111, 110, 110, 110], [110, 110, 110], [45, 111, 110], [45, 111, 110, 110, 110]])
abbrev RX := Int × Str × Int × List Str × List Seg × List Port × List Stat × Int × Int × Int × Int × List Str × List Seg × List Port × List Stat
abbrev RE := (Int × List Str × List Seg × List Port × List Stat × Int × Int × Int × Int × List Str × List Seg × List Port × List Stat) ⊕ (Int × Int × List Str × List Seg × List Port × List Stat × Int × Int)
abbrev R6 := Int × Int × List Str × List Seg × List Port × List Stat
def stR (s : RS) (i : Int) : RX := (s.2.2.1 - 1, s.2.2.2.1, i, [], [], [], [], 0, 0, s.1, s.2.1, s.2.2.2.2.1, s.2.2.2.2.2.1, s.2.2.2.2.2.2.1, s.2.2.2.2.2.2.2)
noncomputable def rstep (r : List (List Str) × Int) (x : RX) : Option (RX ⊕ RE) := qbZ r KK x.1 x.2.1 x.2.2.1 x.2.2.2.1 x.2.2.2.2.1 x.2.2.2.2.2.1 x.2.2.2.2.2.2.1 x.2.2.2.2.2.2.2.1 x.2.2.2.2.2.2.2.2.1 x.2.2.2.2.2.2.2.2.2.1 x.2.2.2.2.2.2.2.2.2.2.1 x.2.2.2.2.2.2.2.2.2.2.2.1 x.2.2.2.2.2.2.2.2.2.2.2.2.1 x.2.2.2.2.2.2.2.2.2.2.2.2.2.1 x.2.2.2.2.2.2.2.2.2.2.2.2.2.2
def errR (i : Nat) (e : Int) : Option (RX ⊕ RE) := some (.inr (.inr (((i + 1 : Nat) : Int), e, [], [], [], [], 0, 0)))
theorem qqE (k : Str) : qam KK.1 k = ((qbw k : Nat) : Int) - 1 := by
 unfold qam qbw
 simp only [List.findIdx_cons, List.findIdx_nil]
 generalize decide (k = [110, 101, 116, 119, 111, 114, 107]) = a
 generalize decide (k = [110, 111, 100, 101]) = b
 generalize decide (k = [115, 101, 103, 109, 101, 110, 116]) = c
 generalize decide (k = [112, 111, 105, 110, 116]) = d
 generalize decide (k = [112, 111, 114, 116]) = e
 generalize decide (k = [115, 116, 97, 116, 105, 111, 110]) = f
 cases a <;> cases b <;> cases c <;> cases d <;> cases e <;> cases f <;> rfl
theorem qgF {k : Str} {x : Nat} (h : qbw k = x) (h1 : 1 ≤ x) : k = ([[], kNet, kNode, kSeg, kPt, kPort, kSta] : List Str).getD x [] := by
 unfold qbw at h
 by_cases a : k = kNet
 ·rw [dec_t a] at h; have h' : 1 = x := h; subst h'; exact a
 ·rw [dec_f a] at h
  by_cases b : k = kNode
  ·rw [dec_t b] at h; have h' : 2 = x := h; subst h'; exact b
  ·rw [dec_f b] at h
   by_cases c : k = kSeg
   ·rw [dec_t c] at h; have h' : 3 = x := h; subst h'; exact c
   ·rw [dec_f c] at h
    by_cases d : k = kPt
    ·rw [dec_t d] at h; have h' : 4 = x := h; subst h'; exact d
    ·rw [dec_f d] at h
     by_cases e : k = kPort
     ·rw [dec_t e] at h; have h' : 5 = x := h; subst h'; exact e
     ·rw [dec_f e] at h
      by_cases f : k = kSta
      ·rw [dec_t f] at h; have h' : 6 = x := h; subst h'; exact f
      ·rw [dec_f f] at h; have h' : 0 = x := h; omega
theorem qqF (l : List Str) (x : Str) : -1 ≤ qam l x := by unfold qam; split <;> omega
theorem qgG (l : List Str) (x : Str) : decide (qam l x < 0) = decide (qam l x = -1) := by
 have := qqF l x
 exact decide_eq_decide.2 (by omega)
theorem eta6 (o : Option R6) : (o.bind fun s => some (s.1, s.2.1, s.2.2.1, s.2.2.2.1, s.2.2.2.2.1, s.2.2.2.2.2)) = o := by cases o <;> rfl
def tailR (k : Str) (w : List Str) (m ats : List Int) (v se : Int) (nodes : List Str) (segs : List Seg) (ports : List Port) (stats : List Stat) : Option R6 :=
 bif decide (k = kNet) then (gd (inB 0 m.length) <| gd (inB 1 m.length) <| some (m.getD 0 0, m.getD 1 0, nodes, segs, ports, stats))
 else bif decide (k = kNode) then (gd (inB 1 w.length) <| gd (fits (nodes.length + 1) 16) <| some (v, se, nodes ++ [w.getD 1 []], segs, ports, stats))
 else bif decide (k = kSeg) then (gd (inB 1 w.length) <| gd (inB 0 ats.length) <| gd (inB 1 ats.length) <| gd (inB 0 m.length) <| gd (inB 1 m.length) <| gd (inB 2 m.length) <| gd (fits (segs.length + 1) 80) <|
  some (v, se, nodes, segs ++ [(w.getD 1 [], (ats.getD 0 0, (ats.getD 1 0, (m.getD 0 0, (m.getD 1 0, (m.getD 2 0, []))))))], ports, stats))
 else bif decide (k = kPt) then (gd (inB (wi64 ((segs.length : Int) - 1)) segs.length) <| gd (inB 0 m.length) <| gd (inB 1 m.length) <| gd (inB 2 m.length) <|
  gd (fits ((((((((segs.getD ((wi64 ((segs.length : Int) - 1)).toNat) ([], (0, (0, (0, (0, (0, []))))))).2).2).2).2).2).2).length + 1) 24) <|
  gd (inB (wi64 ((segs.length : Int) - 1)) segs.length) <| gd (Nat.beq ((wi64 ((segs.length : Int) - 1)).toNat) ((wi64 ((segs.length : Int) - 1)).toNat)) <|
  some (v, se, nodes, segs.set ((wi64 ((segs.length : Int) - 1)).toNat) ((segs.getD ((wi64 ((segs.length : Int) - 1)).toNat) ([], (0, (0, (0, (0, (0, []))))))).1, (((segs.getD ((wi64 ((segs.length : Int) - 1)).toNat) ([], (0, (0, (0, (0, (0, []))))))).2).1, ((((segs.getD ((wi64 ((segs.length : Int) - 1)).toNat) ([], (0, (0, (0, (0, (0, []))))))).2).2).1, (((((segs.getD ((wi64 ((segs.length : Int) - 1)).toNat) ([], (0, (0, (0, (0, (0, []))))))).2).2).2).1, ((((((segs.getD ((wi64 ((segs.length : Int) - 1)).toNat) ([], (0, (0, (0, (0, (0, []))))))).2).2).2).2).1, (((((((segs.getD ((wi64 ((segs.length : Int) - 1)).toNat) ([], (0, (0, (0, (0, (0, []))))))).2).2).2).2).2).1, (((((((segs.getD ((wi64 ((segs.length : Int) - 1)).toNat) ([], (0, (0, (0, (0, (0, []))))))).2).2).2).2).2).2) ++ [(m.getD 0 0, (m.getD 1 0, m.getD 2 0))])))))), ports, stats))
 else bif decide (k = kPort) then (gd (inB 1 w.length) <| gd (inB 0 ats.length) <| gd (inB 0 m.length) <| gd (fits (ports.length + 1) 32) <| some (v, se, nodes, segs, ports ++ [(w.getD 1 [], (ats.getD 0 0, m.getD 0 0))], stats))
 else (gd (inB 1 w.length) <| gd (inB 0 ats.length) <| gd (inB 0 m.length) <| gd (inB 1 m.length) <| gd (inB 2 m.length) <| gd (fits (stats.length + 1) 48) <|
  some (v, se, nodes, segs, ports, stats ++ [(w.getD 1 [], (ats.getD 0 0, (m.getD 0 0, (m.getD 1 0, m.getD 2 0))))]))
theorem rcore {r : List (List Str) × Int} {i x q : Nat} {w : List Str} {s : RS} {F : Str} (hi : i < r.1.length) (hr : r.1.length ≤ 1000) (hw : r.1.getD i [] = w) (h0 : 0 < w.length) (hl : w.length ≤ 1000) (hx : ∀ x ∈ w, x.length ≤ 1000000) (hb : Bd s) (hrk : 0 ≤ s.2.2.1)
  (hk : qbw (w.getD 0 []) = x) (hq : x = q + 1) (hq6 : q < 6) (hF : KK.2.getD q [] = F) (hFl : F.length = wdOf x) :
  rstep r (stR s (i : Nat)) = bif !decide (w.length = wdOf x + 1) then errR i 3 else bif !(List.range F.length).all (okF F w) then errR i 3 else bif ordB (frOf x) s.2.2.1 (w.getD 0 []) s.2.2.2.1 then errR i 6 else
   bif !(List.range F.length).all (knF F s.2.2.2.2.1 w) then errR i 8 else (tailR (w.getD 0 []) w (numF F w F.length) (atF F s.2.2.2.2.1 w F.length) s.1 s.2.1 s.2.2.2.2.1 s.2.2.2.2.2.1 s.2.2.2.2.2.2.1 s.2.2.2.2.2.2.2).bind fun t =>
    some (.inl (frOf x - 1, w.getD 0 [], ((i + 1 : Nat) : Int), [], [], [], [], 0, 0, t.1, t.2.1, t.2.2.1, t.2.2.2.1, t.2.2.2.2.1, t.2.2.2.2.2)) := by
 have h3 : inB ((q : Nat) : Int) KK.2.length = true := inB_t hq6
 have hv : wi64 (((i : Nat) : Int) + 1) = ((i + 1 : Nat) : Int) := w1 hi (by omega)
 unfold rstep stR qbZ
 rw [dec_t (show ((i : Nat) : Int) < (r.1.length : Int) by omega), cond_true, gd_t (inB_t hi), Int.toNat_natCast, hw, dec_f (by omega), cond_false, gd_t (inB0 h0), qlc _ _ (by show 6 ≤ 1000000; decide), Option.bind_some, qqE, hk, hq]
 rw [show (((q + 1 : Nat) : Int) - 1) = ((q : Nat) : Int) by omega, dec_f (show ¬ ((q : Nat) : Int) < 0 by omega), cond_false, gd_t h3, Option.bind_some, Int.toNat_natCast, hF]
 have el : decide ((w.length : Int) = wi64 (1 + (F.length : Int))) = decide (w.length = wdOf (q + 1) + 1) := by
  rw [← hq, ← hFl]
  rw [wi (by rw [hFl]; have := (qmb x (by omega)).2.2.2.2; omega)]
  exact decide_eq_decide.2 (by omega)
 rw [el]
 by_cases hlw : w.length = wdOf (q + 1) + 1
 ·rw [dec_t hlw]
  simp only [Bool.not_true, cond_false]
  have hl2 : w.length = F.length + 1 := by rw [hFl, hq]; exact hlw
  have n1 := rnums (r := r) (r2 := KK) (v := ((i : Nat) : Int)) (r3 := ((q : Nat) : Int)) (w := w) (F := F) (v2 := []) (v3 := []) (v4 := []) (v5 := []) (v6 := 0) (v7 := 0) (a := s.1) (b := s.2.1) (nodes := s.2.2.2.2.1) (segs := s.2.2.2.2.2.1) (ports := s.2.2.2.2.2.2.1) (stats := s.2.2.2.2.2.2.2) (by rw [Int.toNat_natCast]; exact hw) (by rw [Int.toNat_natCast]; exact hF) h3 hl2 hl hx hv
  rw [n1, Option.bind_some]
  cases hall : (List.range F.length).all (okF F w) with
  | false => simp only [cond_false, Sum.elim_inr, Option.bind_some, Bool.not_false, cond_true]; rfl
  | true =>
   simp only [cond_true, Sum.elim_inl, Bool.not_true, cond_false]
   rw [gd_t (show inB ((q : Nat) : Int) ([0, 1, 2, 2, 3, 4] : List Int).length = true from inB_t hq6)]
   have hpl : ([0, 1, 2, 2, 3, 4] : List Int).getD q 0 = frOf (q + 1) - 1 := by
    match q, hq6 with
    | 0, _ => rfl
    | 1, _ => rfl
    | 2, _ => rfl
    | 3, _ => rfl
    | 4, _ => rfl
    | 5, _ => rfl
    | n + 6, h => omega
   rw [hpl]
   have hord : ∀ {A : Type} (b : A), (bif !(decide (frOf (q + 1) - 1 = 0) == decide (s.2.2.1 - 1 < 0)) then some (true, b) else (bif decide (frOf (q + 1) - 1 < s.2.2.1 - 1) then some (true, b) else (gd (inB 0 w.length) <| bif decide (w.getD 0 [] = [112, 111, 105, 110, 116]) then (bif !decide (s.2.2.2.1 = [115, 101, 103, 109, 101, 110, 116]) then some ((!decide (s.2.2.2.1 = [112, 111, 105, 110, 116])), b) else some (false, b)) else some (false, b)))) = some (ordB (frOf (q + 1)) s.2.2.1 (w.getD 0 []) s.2.2.2.1, b) := by
    intro A b
    rw [gd_t (inB0 h0)]
    unfold ordB
    have c1 : (decide (frOf (q + 1) - 1 = 0) == decide (s.2.2.1 - 1 < 0)) = (decide (s.2.2.1 = 0) == decide (frOf (q + 1) = 1)) := by
     rw [show decide (frOf (q + 1) - 1 = 0) = decide (frOf (q + 1) = 1) from decide_eq_decide.2 (by omega), show decide (s.2.2.1 - 1 < 0) = decide (s.2.2.1 = 0) from decide_eq_decide.2 (by omega)]
     cases decide (frOf (q + 1) = 1) <;> cases decide (s.2.2.1 = 0) <;> rfl
    rw [c1, show decide (frOf (q + 1) - 1 < s.2.2.1 - 1) = decide (frOf (q + 1) < s.2.2.1) from decide_eq_decide.2 (by omega)]
    cases decide (s.2.2.1 = 0) == decide (frOf (q + 1) = 1) with
    | false => rfl
    | true => cases decide (frOf (q + 1) < s.2.2.1) with
     | true => rfl
     | false => cases decide (w.getD 0 [] = kPt) with
      | false => rfl
      | true => cases decide (s.2.2.2.1 = kSeg) <;> rfl
   rw [hord, Option.bind_some]
   cases ho : ordB (frOf (q + 1)) s.2.2.1 (w.getD 0 []) s.2.2.2.1 with
   | true => simp only [cond_true, Option.bind_some]; rw [hv]; rfl
   | false =>
    simp only [cond_false]
    have n2 := rats (r := r) (r2 := KK) (v := ((i : Nat) : Int)) (r3 := ((q : Nat) : Int)) (w := w) (F := F) (v2 := []) (v3 := []) (v4 := []) (v5 := []) (v6 := 0) (v7 := 0) (a := s.1) (b := s.2.1) (nodes := s.2.2.2.2.1) (segs := s.2.2.2.2.2.1) (ports := s.2.2.2.2.2.2.1) (stats := s.2.2.2.2.2.2.2) (by rw [Int.toNat_natCast]; exact hw) (by rw [Int.toNat_natCast]; exact hF) h3 hl2 hl (Nat.le_trans hb.no (by decide)) hv (m := numF F w F.length)
    rw [n2, Option.bind_some]
    cases hkn : (List.range F.length).all (knF F s.2.2.2.2.1 w) with
    | false => simp only [cond_false, Sum.elim_inr, Option.bind_some, Bool.not_false, cond_true]; rfl
    | true =>
     simp only [cond_true, Sum.elim_inl, Bool.not_true, cond_false]
     rw [gd_t (inB0 h0)]
     simp only [eta6]
     show ((Option.bind (tailR (w.getD 0 []) w (numF F w F.length) (atF F s.2.2.2.2.1 w F.length) s.1 s.2.1 s.2.2.2.2.1 s.2.2.2.2.2.1 s.2.2.2.2.2.2.1 s.2.2.2.2.2.2.2) _).bind _) = _
     generalize tailR (w.getD 0 []) w (numF F w F.length) (atF F s.2.2.2.2.1 w F.length) s.1 s.2.1 s.2.2.2.2.1 s.2.2.2.2.2.1 s.2.2.2.2.2.2.1 s.2.2.2.2.2.2.2 = o
     cases o with
     | none => rfl
     | some t =>
      simp only [Option.bind_some]
      rw [gd_t (inB0 h0), Option.bind_some, hv]
      rfl
 ·rw [dec_f hlw]
  simp only [Bool.not_false, cond_true, Option.bind_some]
  rw [hv]; rfl
end Go.Proofs.YtpgigbdefbeagaaGreatDoor
namespace Go.Proofs.YtpgigbdefbeagaaGreatDoor
open Go Go.Sq
def outR (i : Nat) : Int ⊕ RS → Option (RX ⊕ RE)
 | .inl e => errR i e
 | .inr s => some (.inl (stR s ((i + 1 : Nat) : Int)))
theorem rbad {r : List (List Str) × Int} {i : Nat} {w : List Str} {s : RS} (hi : i < r.1.length) (hr : r.1.length ≤ 1000) (hw : r.1.getD i [] = w) (h0 : 0 < w.length) (hk : qbw (w.getD 0 []) = 0) : rstep r (stR s (i : Nat)) = errR i 3 := by
 have hv : wi64 (((i : Nat) : Int) + 1) = ((i + 1 : Nat) : Int) := w1 hi (by omega)
 unfold rstep stR qbZ
 rw [dec_t (show ((i : Nat) : Int) < (r.1.length : Int) by omega), cond_true, gd_t (inB_t hi), Int.toNat_natCast, hw, dec_f (by omega), cond_false, gd_t (inB0 h0), qlc _ _ (by show 6 ≤ 1000000; decide), Option.bind_some, qqE, hk]
 rw [show decide (((0 : Nat) : Int) - 1 < 0) = true from rfl, cond_true, Option.bind_some]
 simp only [cond_true, Option.bind_some]
 rw [hv]; rfl
theorem l2 {A : Type} {w : List A} (h : w.length = 2) : ∃ a b, w = [a, b] := by
 match w, h with
 | [a, b], _ => exact ⟨a, b, rfl⟩
theorem l3 {A : Type} {w : List A} (h : w.length = 3) : ∃ a b c, w = [a, b, c] := by
 match w, h with
 | [a, b, c], _ => exact ⟨a, b, c, rfl⟩
theorem l4 {A : Type} {w : List A} (h : w.length = 4) : ∃ a b c d, w = [a, b, c, d] := by
 match w, h with
 | [a, b, c, d], _ => exact ⟨a, b, c, d, rfl⟩
theorem l6 {A : Type} {w : List A} (h : w.length = 6) : ∃ a b c d e f, w = [a, b, c, d, e, f] := by
 match w, h with
 | [a, b, c, d, e, f], _ => exact ⟨a, b, c, d, e, f, rfl⟩
theorem l7 {A : Type} {w : List A} (h : w.length = 7) : ∃ a b c d e f g, w = [a, b, c, d, e, f, g] := by
 match w, h with
 | [a, b, c, d, e, f, g], _ => exact ⟨a, b, c, d, e, f, g, rfl⟩
theorem kdec : (decide (kNode = kNet) = false ∧ decide (kSeg = kNet) = false ∧ decide (kPt = kNet) = false ∧ decide (kPort = kNet) = false ∧ decide (kSta = kNet) = false) ∧ (decide (kSeg = kNode) = false ∧ decide (kPt = kNode) = false ∧ decide (kPort = kNode) = false ∧ decide (kSta = kNode) = false) ∧
  (decide (kPt = kSeg) = false ∧ decide (kPort = kSeg) = false ∧ decide (kSta = kSeg) = false) ∧ (decide (kPort = kPt) = false ∧ decide (kSta = kPt) = false) ∧ decide (kSta = kPort) = false := by decide
theorem qrw {r : List (List Str) × Int} {i : Nat} {w : List Str} {s : RS} (hi : i < r.1.length) (hr : r.1.length ≤ 1000) (hw : r.1.getD i [] = w) (h0 : 0 < w.length) (hl : w.length ≤ 1000) (hx : ∀ x ∈ w, x.length ≤ 1000000) (hb : Bd s) (hrk : 0 ≤ s.2.2.1) :
  rstep r (stR s (i : Nat)) = outR i (qb3 w s) := by
 have hk6 := qjG (w.getD 0 [])
 have core := fun (x q : Nat) (F : Str) (hk : qbw (w.getD 0 []) = x) => rcore (x := x) (q := q) (F := F) hi hr hw h0 hl hx hb hrk hk
 unfold qb3
 generalize hxx : qbw (w.getD 0 []) = x at hk6 ⊢
 obtain ⟨⟨d1, d2, d3, d4, d5⟩, ⟨d6, d7, d8, d9⟩, ⟨d10, d11, d12⟩, ⟨d13, d14⟩, d15⟩ := kdec
 obtain ⟨v, se, rk, la, nodes, segs, ports, stats⟩ := s
 have b1 : nodes.length ≤ 1000 := hb.no
 have b2 : segs.length ≤ 1000 := hb.sg
 have b3 : ports.length ≤ 1000 := hb.po
 have b4 : stats.length ≤ 1000 := hb.st
 match x, hk6 with
 | 0, _ => rw [rbad hi hr hw h0 hxx]; rfl
 | 1, _ =>
  have hc := core 1 0 [110, 110] hxx rfl (by decide) rfl rfl
  have hk0 := qgF hxx (by decide)
  rw [hc]
  rw [show Nat.beq 1 0 = false from rfl, cond_false]
  by_cases hlw : w.length = wdOf 1 + 1
  ·rw [dec_t hlw]
   obtain ⟨w0, a, b, rfl⟩ := l3 hlw
   have hk0' : w0 = kNet := hk0
   subst hk0'
   rw [show (List.range (List.length ([110, 110] : Str))).all (okF [110, 110] [kNet, a, b]) = ([kNet, a, b].drop (1 + nmOf 1)).all okN by kernel_rfl, show numF [110, 110] [kNet, a, b] (List.length ([110, 110] : Str)) = qdV ([kNet, a, b].drop (1 + nmOf 1)) by kernel_rfl,
    show (List.range (List.length ([110, 110] : Str))).all (knF [110, 110] (v, se, rk, la, nodes, segs, ports, stats).2.2.2.2.1 [kNet, a, b]) = true by kernel_rfl]
   simp only [Bool.not_true, cond_false]
   cases ([kNet, a, b].drop (1 + nmOf 1)).all okN with
   | false => rfl
   | true =>
    simp only [Bool.not_true, cond_false]
    cases ordB (frOf 1) rk (([kNet, a, b] : List Str).getD 0 []) la with
    | true => rfl
    | false => rfl
  ·rw [dec_f hlw]; rfl
 | 2, _ =>
  have hc := core 2 1 [45] hxx rfl (by decide) rfl rfl
  have hk0 := qgF hxx (by decide)
  rw [hc]
  rw [show Nat.beq 2 0 = false from rfl, cond_false]
  by_cases hlw : w.length = wdOf 2 + 1
  ·rw [dec_t hlw]
   obtain ⟨w0, a, rfl⟩ := l2 hlw
   have hk0' : w0 = kNode := hk0
   subst hk0'
   rw [show (List.range (List.length ([45] : Str))).all (okF [45] [kNode, a]) = ([kNode, a].drop (1 + nmOf 2)).all okN by kernel_rfl, show numF [45] [kNode, a] (List.length ([45] : Str)) = qdV ([kNode, a].drop (1 + nmOf 2)) by kernel_rfl,
    show (List.range (List.length ([45] : Str))).all (knF [45] (v, se, rk, la, nodes, segs, ports, stats).2.2.2.2.1 [kNode, a]) = true by kernel_rfl]
   simp only [Bool.not_true, cond_false]
   cases ([kNode, a].drop (1 + nmOf 2)).all okN with
   | false => rfl
   | true =>
    simp only [Bool.not_true, cond_false]
    cases ordB (frOf 2) rk (([kNode, a] : List Str).getD 0 []) la with
    | true => rfl
    | false =>
     show Option.bind (tailR kNode [kNode, a] _ _ v se nodes segs ports stats) _ = _
     unfold tailR
     rw [d1, dec_t (show kNode = kNode from rfl), cond_false, cond_true, gd_t (inB1 (by show 1 < 2; decide)), gd_t (qaz (by omega))]; rfl
  ·rw [dec_f hlw]; rfl
 | 3, _ =>
  have hc := core 3 2 [45, 111, 111, 110, 110, 110] hxx rfl (by decide) rfl rfl
  have hk0 := qgF hxx (by decide)
  rw [hc]
  rw [show Nat.beq 3 0 = false from rfl, cond_false]
  by_cases hlw : w.length = wdOf 3 + 1
  ·rw [dec_t hlw]
   obtain ⟨w0, a, b, c, d, e, f, rfl⟩ := l7 hlw
   have hk0' : w0 = kSeg := hk0
   subst hk0'
   rw [show (List.range (List.length ([45, 111, 111, 110, 110, 110] : Str))).all (okF [45, 111, 111, 110, 110, 110] [kSeg, a, b, c, d, e, f]) = ([kSeg, a, b, c, d, e, f].drop (1 + nmOf 3)).all okN by kernel_rfl, show numF [45, 111, 111, 110, 110, 110] [kSeg, a, b, c, d, e, f] (List.length ([45, 111, 111, 110, 110, 110] : Str)) = qdV ([kSeg, a, b, c, d, e, f].drop (1 + nmOf 3)) by kernel_rfl,
    show (List.range (List.length ([45, 111, 111, 110, 110, 110] : Str))).all (knF [45, 111, 111, 110, 110, 110] (v, se, rk, la, nodes, segs, ports, stats).2.2.2.2.1 [kSeg, a, b, c, d, e, f]) = (!decide (qam nodes b < 0) && (!decide (qam nodes c < 0) && true)) by kernel_rfl,
    show atF [45, 111, 111, 110, 110, 110] (v, se, rk, la, nodes, segs, ports, stats).2.2.2.2.1 [kSeg, a, b, c, d, e, f] (List.length ([45, 111, 111, 110, 110, 110] : Str)) = [qam nodes b, qam nodes c] by kernel_rfl]
   simp only [Bool.not_true, cond_false]
   cases ([kSeg, a, b, c, d, e, f].drop (1 + nmOf 3)).all okN with
   | false => rfl
   | true =>
    simp only [Bool.not_true, cond_false]
    cases ordB (frOf 3) rk (([kSeg, a, b, c, d, e, f] : List Str).getD 0 []) la with
    | true => rfl
    | false =>
     simp only [cond_false]
     rw [qgG, qgG, Bool.and_true]
     show (bif !(!decide (qam nodes b = -1) && !decide (qam nodes c = -1)) then _ else _) = outR i (bif decide (qam nodes b = -1) || decide (qam nodes c = -1) then _ else _)
     cases decide (qam nodes b = -1) with
     | true => rfl
     | false => cases decide (qam nodes c = -1) with
      | true => rfl
      | false =>
       show Option.bind (tailR kSeg [kSeg, a, b, c, d, e, f] _ _ v se nodes segs ports stats) _ = _
       unfold tailR
       rw [d2, d6, dec_t (show kSeg = kSeg from rfl), cond_false, cond_false, cond_true, gd_t (inB1 (by show 1 < 7; decide)), gd_t (inB0 (by show 0 < 2; decide)), gd_t (inB1 (by show 1 < 2; decide)), gd_t (inB0 (by show 0 < 3; decide)), gd_t (inB1 (by show 1 < 3; decide)), gd_t (inB2 (by show 2 < 3; decide)), gd_t (qaz (by omega))]; rfl
  ·rw [dec_f hlw]; rfl
 | 4, _ =>
  have hc := core 4 3 [110, 110, 110] hxx rfl (by decide) rfl rfl
  have hk0 := qgF hxx (by decide)
  rw [hc]
  rw [show Nat.beq 4 0 = false from rfl, cond_false]
  by_cases hlw : w.length = wdOf 4 + 1
  ·rw [dec_t hlw]
   obtain ⟨w0, a, b, c, rfl⟩ := l4 hlw
   have hk0' : w0 = kPt := hk0
   subst hk0'
   rw [show (List.range (List.length ([110, 110, 110] : Str))).all (okF [110, 110, 110] [kPt, a, b, c]) = ([kPt, a, b, c].drop (1 + nmOf 4)).all okN by kernel_rfl, show numF [110, 110, 110] [kPt, a, b, c] (List.length ([110, 110, 110] : Str)) = qdV ([kPt, a, b, c].drop (1 + nmOf 4)) by kernel_rfl,
    show (List.range (List.length ([110, 110, 110] : Str))).all (knF [110, 110, 110] (v, se, rk, la, nodes, segs, ports, stats).2.2.2.2.1 [kPt, a, b, c]) = true by kernel_rfl]
   simp only [Bool.not_true, cond_false]
   cases ([kPt, a, b, c].drop (1 + nmOf 4)).all okN with
   | false => rfl
   | true =>
    simp only [Bool.not_true, cond_false]
    cases ho : ordB (frOf 4) rk (([kPt, a, b, c] : List Str).getD 0 []) la with
    | true => rfl
    | false =>
     have hne : 0 < segs.length := by
      have ho' : ordB (frOf 4) rk kPt la = false := ho
      unfold ordB at ho'
      rw [dec_t (show kPt = kPt from rfl)] at ho'
      simp only [Bool.or_eq_false_iff, Bool.true_and, Bool.and_eq_false_iff, Bool.not_eq_false', decide_eq_true_eq] at ho'
      have hq : la = kSeg ∨ la = kPt := by
       rcases ho'.2.2 with h | h
       ·exact .inl h
       ·exact .inr h
      have hs : segs ≠ [] := hb.ls hq
      cases segs with
      | nil => exact absurd rfl hs
      | cons a l => simp
     have hl1 : wi64 ((segs.length : Int) - 1) = ((segs.length - 1 : Nat) : Int) := by rw [wi (by omega)]; omega
     have hpt : List.length ((segs.getD (segs.length - 1) ([], (0, (0, (0, (0, (0, []))))))).2.2.2.2.2.2) ≤ 1000 := hb.pt _ (qaC (d := sg0) (show segs.length - 1 < segs.length by omega))
     show Option.bind (tailR kPt [kPt, a, b, c] _ _ v se nodes segs ports stats) _ = _
     unfold tailR
     rw [d3, d7, d10, dec_t (show kPt = kPt from rfl), cond_false, cond_false, cond_false, cond_true, hl1, Int.toNat_natCast, gd_t (inB_t (show segs.length - 1 < segs.length by omega)), gd_t (inB0 (by show 0 < 3; decide)), gd_t (inB1 (by show 1 < 3; decide)), gd_t (inB2 (by show 2 < 3; decide)), gd_t (qaz (by omega)), gd_t (inB_t (show segs.length - 1 < segs.length by omega)), gd_t (Nat.beq_refl _)]; rfl
  ·rw [dec_f hlw]; rfl
 | 5, _ =>
  have hc := core 5 4 [45, 111, 110] hxx rfl (by decide) rfl rfl
  have hk0 := qgF hxx (by decide)
  rw [hc]
  rw [show Nat.beq 5 0 = false from rfl, cond_false]
  by_cases hlw : w.length = wdOf 5 + 1
  ·rw [dec_t hlw]
   obtain ⟨w0, a, b, c, rfl⟩ := l4 hlw
   have hk0' : w0 = kPort := hk0
   subst hk0'
   rw [show (List.range (List.length ([45, 111, 110] : Str))).all (okF [45, 111, 110] [kPort, a, b, c]) = ([kPort, a, b, c].drop (1 + nmOf 5)).all okN by kernel_rfl, show numF [45, 111, 110] [kPort, a, b, c] (List.length ([45, 111, 110] : Str)) = qdV ([kPort, a, b, c].drop (1 + nmOf 5)) by kernel_rfl,
    show (List.range (List.length ([45, 111, 110] : Str))).all (knF [45, 111, 110] (v, se, rk, la, nodes, segs, ports, stats).2.2.2.2.1 [kPort, a, b, c]) = (!decide (qam nodes b < 0) && true) by kernel_rfl,
    show atF [45, 111, 110] (v, se, rk, la, nodes, segs, ports, stats).2.2.2.2.1 [kPort, a, b, c] (List.length ([45, 111, 110] : Str)) = [qam nodes b] by kernel_rfl]
   simp only [Bool.not_true, cond_false]
   cases ([kPort, a, b, c].drop (1 + nmOf 5)).all okN with
   | false => rfl
   | true =>
    simp only [Bool.not_true, cond_false]
    cases ordB (frOf 5) rk (([kPort, a, b, c] : List Str).getD 0 []) la with
    | true => rfl
    | false =>
     simp only [cond_false]
     rw [qgG, Bool.and_true]
     show (bif !(!decide (qam nodes b = -1)) then _ else _) = outR i (bif decide (qam nodes b = -1) then _ else _)
     cases decide (qam nodes b = -1) with
     | true => rfl
     | false =>
      show Option.bind (tailR kPort [kPort, a, b, c] _ _ v se nodes segs ports stats) _ = _
      unfold tailR
      rw [d4, d8, d11, d13, dec_t (show kPort = kPort from rfl), cond_false, cond_false, cond_false, cond_false, cond_true, gd_t (inB1 (by show 1 < 4; decide)), gd_t (inB0 (by show 0 < 1; decide)), gd_t (inB0 (by show 0 < 1; decide)), gd_t (qaz (by omega))]; rfl
  ·rw [dec_f hlw]; rfl
 | 6, _ =>
  have hc := core 6 5 [45, 111, 110, 110, 110] hxx rfl (by decide) rfl rfl
  have hk0 := qgF hxx (by decide)
  rw [hc]
  rw [show Nat.beq 6 0 = false from rfl, cond_false]
  by_cases hlw : w.length = wdOf 6 + 1
  ·rw [dec_t hlw]
   obtain ⟨w0, a, b, c, d, e, rfl⟩ := l6 hlw
   have hk0' : w0 = kSta := hk0
   subst hk0'
   rw [show (List.range (List.length ([45, 111, 110, 110, 110] : Str))).all (okF [45, 111, 110, 110, 110] [kSta, a, b, c, d, e]) = ([kSta, a, b, c, d, e].drop (1 + nmOf 6)).all okN by kernel_rfl, show numF [45, 111, 110, 110, 110] [kSta, a, b, c, d, e] (List.length ([45, 111, 110, 110, 110] : Str)) = qdV ([kSta, a, b, c, d, e].drop (1 + nmOf 6)) by kernel_rfl,
    show (List.range (List.length ([45, 111, 110, 110, 110] : Str))).all (knF [45, 111, 110, 110, 110] (v, se, rk, la, nodes, segs, ports, stats).2.2.2.2.1 [kSta, a, b, c, d, e]) = (!decide (qam nodes b < 0) && true) by kernel_rfl,
    show atF [45, 111, 110, 110, 110] (v, se, rk, la, nodes, segs, ports, stats).2.2.2.2.1 [kSta, a, b, c, d, e] (List.length ([45, 111, 110, 110, 110] : Str)) = [qam nodes b] by kernel_rfl]
   simp only [Bool.not_true, cond_false]
   cases ([kSta, a, b, c, d, e].drop (1 + nmOf 6)).all okN with
   | false => rfl
   | true =>
    simp only [Bool.not_true, cond_false]
    cases ordB (frOf 6) rk (([kSta, a, b, c, d, e] : List Str).getD 0 []) la with
    | true => rfl
    | false =>
     simp only [cond_false]
     rw [qgG, Bool.and_true]
     show (bif !(!decide (qam nodes b = -1)) then _ else _) = outR i (bif decide (qam nodes b = -1) then _ else _)
     cases decide (qam nodes b = -1) with
     | true => rfl
     | false =>
      show Option.bind (tailR kSta [kSta, a, b, c, d, e] _ _ v se nodes segs ports stats) _ = _
      unfold tailR
      rw [d5, d9, d12, d14, d15, cond_false, cond_false, cond_false, cond_false, cond_false, gd_t (inB1 (by show 1 < 6; decide)), gd_t (inB0 (by show 0 < 1; decide)), gd_t (inB0 (by show 0 < 3; decide)), gd_t (inB1 (by show 1 < 3; decide)), gd_t (inB2 (by show 2 < 3; decide)), gd_t (qaz (by omega))]; rfl
  ·rw [dec_f hlw]; rfl
 | n + 7, h => omega
end Go.Proofs.YtpgigbdefbeagaaGreatDoor
namespace Go.Proofs.YtpgigbdefbeagaaGreatDoor
open Go Go.Sq
theorem qqG {x : Nat} {w : List Str} {m : List Int} {fr : Int} {s s' : RS} (h1 : 1 ≤ x) (h6 : x ≤ 6) (h : takeS x w m fr s = .inr s') : s'.2.2.1 = fr := by
 obtain ⟨v, se, r, la, nodes, segs, ports, stats⟩ := s
 have key : ∀ {b : Bool} {z : RS}, (bif b then (.inl 8 : Int ⊕ RS) else .inr z) = .inr s' → z.2.2.1 = fr → s'.2.2.1 = fr := by
  intro b z h hz
  cases b with
  | true => cases h
  | false => injection h with h; subst h; exact hz
 match x, h1, h6 with
 | 1, _, _ => injection h with h; subst h; rfl
 | 2, _, _ => injection h with h; subst h; rfl
 | 3, _, _ => exact key h rfl
 | 4, _, _ => injection h with h; subst h; rfl
 | 5, _, _ => exact key h rfl
 | 6, _, _ => exact key h rfl
 | n + 7, _, h => omega
theorem fr_nn : ∀ x, x ≤ 6 → 0 ≤ frOf x := by
 intro x hx
 match x, hx with
 | 0, _ => decide
 | 1, _ => decide
 | 2, _ => decide
 | 3, _ => decide
 | 4, _ => decide
 | 5, _ => decide
 | 6, _ => decide
 | n + 7, h => omega
theorem qmd {w : List Str} {s s' : RS} (h : qb3 w s = .inr s') : 0 ≤ s'.2.2.1 := by
 unfold qb3 at h
 have hk6 := qjG (w.getD 0 [])
 generalize hx : qbw (w.getD 0 []) = x at h hk6
 cases hx0 : Nat.beq x 0 with
 | true => rw [hx0] at h; cases h
 | false =>
  have hxp : 1 ≤ x := by
   rcases Nat.eq_zero_or_pos x with h | h
   ·subst h; cases hx0
   ·exact h
  rw [hx0, cond_false] at h
  cases h1 : decide (w.length = wdOf x + 1) with
  | false => rw [h1] at h; cases h
  | true =>
   rw [h1, Bool.not_true, cond_false] at h
   cases h2 : (w.drop (1 + nmOf x)).all okN with
   | false => rw [h2] at h; cases h
   | true =>
    rw [h2, Bool.not_true, cond_false] at h
    cases h3 : ordB (frOf x) s.2.2.1 (w.getD 0 []) s.2.2.2.1 with
    | true => rw [h3] at h; cases h
    | false =>
     rw [h3, cond_false] at h
     rw [qqG hxp hk6 h]; exact fr_nn x hk6
theorem qjH : ∀ (ws : List (List Str)) (i : Nat) (s s' : RS), 0 ≤ s.2.2.1 → loopP i s ws = .inl s' → 0 ≤ s'.2.2.1
 | [], i, s, s', h, he => by rw [loopP] at he; injection he with he; subst he; exact h
 | w :: ws, i, s, s', h, he => by
  rw [loopP] at he
  cases hemp : w.isEmpty with
  | true => rw [hemp, cond_true] at he; exact qjH ws (i + 1) s s' h he
  | false =>
   rw [hemp, cond_false] at he
   cases hl : qb3 w s with
   | inl e => rw [hl] at he; cases he
   | inr s2 => rw [hl] at he; exact qjH ws (i + 1) s2 s' (qmd hl) he
def exR : RS ⊕ (Int × Int) → RE
 | .inl s => .inl (s.2.2.1 - 1, [], [], [], [], 0, 0, s.1, s.2.1, s.2.2.2.2.1, s.2.2.2.2.2.1, s.2.2.2.2.2.2.1, s.2.2.2.2.2.2.2)
 | .inr p => .inr (p.1, p.2, [], [], [], [], 0, 0)
theorem qjI (r : List (List Str) × Int) (hr : r.1.length ≤ 400) (hb : ∀ w ∈ r.1, w.length ≤ 16 ∧ ∀ x ∈ w, x.length ≤ 16385) : ∀ (rest pre : List (List Str)) (s : RS), r.1 = pre ++ rest → Bdk pre.length s → 0 ≤ s.2.2.1 →
  iter (rstep r) (stR s (pre.length : Nat)) = some (exR (loopP pre.length s rest))
 | [], pre, s, he, ho, hk => by
  refine qdD ?_
  rw [List.append_nil] at he
  unfold rstep stR qbZ
  rw [dec_f (show ¬ (pre.length : Int) < (r.1.length : Int) by rw [he]; omega)]; rfl
 | w :: rest, pre, s, he, ho, hk => by
  have hi : pre.length < r.1.length := by rw [he]; simp
  have hw : r.1.getD pre.length [] = w := by rw [he, qrU, if_neg (by omega), Nat.sub_self]; rfl
  have hbw := hb w (by rw [he]; simp)
  rw [loopP]
  have hnext : ∀ s', Bdk (pre ++ [w]).length s' → 0 ≤ s'.2.2.1 → iter (rstep r) (stR s' ((pre.length + 1 : Nat) : Int)) = some (exR (loopP (pre.length + 1) s' rest)) := by
   intro s' h' h2
   have := qjI r hr hb rest (pre ++ [w]) s' (by rw [he]; simp) h' h2
   rw [List.length_append, List.length_singleton] at this
   exact this
  cases hemp : w.isEmpty with
  | true =>
   have hw0 : w = [] := List.isEmpty_iff.1 hemp
   have hst : rstep r (stR s (pre.length : Nat)) = some (.inl (stR s ((pre.length + 1 : Nat) : Int))) := by
    unfold rstep stR qbZ
    rw [dec_t (show ((pre.length : Nat) : Int) < (r.1.length : Int) by omega), cond_true, gd_t (inB_t hi), Int.toNat_natCast, hw, hw0]
    simp only [List.length_nil]
    rw [show decide (((0 : Nat) : Int) = 0) = true from rfl, cond_true, Option.bind_some, w1 hi (by omega)]; rfl
   rw [qee hst, cond_true]
   refine hnext s ?_ hk
   rw [List.length_append, List.length_singleton]
   exact ⟨Nat.le_succ_of_le ho.no, Nat.le_succ_of_le ho.sg, Nat.le_succ_of_le ho.po, Nat.le_succ_of_le ho.st, fun g hg => Nat.le_succ_of_le (ho.pt g hg), ho.ls⟩
  | false =>
   have hw0 : 0 < w.length := by
    cases w with
    | nil => cases hemp
    | cons a l => simp
   rw [cond_false]
   have hst := qrw (s := s) hi (by omega) hw hw0 (by omega) (fun x hx => by have := hbw.2 x hx; omega) (ho.bd (by omega)) hk
   cases hl : qb3 w s with
   | inl e =>
    rw [hl] at hst
    exact qdD hst
   | inr s' =>
    rw [hl] at hst
    have hst' : rstep r (stR s (pre.length : Nat)) = some (.inl (stR s' ((pre.length + 1 : Nat) : Int))) := hst
    rw [qee hst']
    refine hnext s' ?_ (qmd hl)
    rw [List.length_append, List.length_singleton]
    exact qqC ho hl
theorem qqH {t : Str} (ht : t.length ≤ 1000000) : qeJ t = some (qaW t) := by
 unfold qeJ qaW
 rw [qqs t ht, Option.bind_some]
 by_cases h0 : (qax t).2 = 0
 ·rw [dec_t h0]
  obtain ⟨b1, b2⟩ := qn4 t h0
  have h := qjI (qax t) b1 b2 (qax t).1 [] S0 rfl ⟨Nat.zero_le _, Nat.zero_le _, Nat.zero_le _, Nat.zero_le _, fun g hg => (by cases hg), fun hh => (by rcases hh with hh | hh <;> cases hh)⟩ (by decide)
  rw [Bool.not_true, cond_false, cond_true, Option.bind_some]
  unfold qhi
  rw [Option.bind_some]
  refine (congrArg (fun o => Option.bind o _) h).trans ?_
  rw [Option.bind_some]
  cases hlp : loopP ([] : List (List Str)).length S0 (qax t).1 with
  | inr p =>
   have hlp' : loopP 0 S0 (qax t).1 = .inr p := hlp
   rfl
  | inl s =>
   have hlp' : loopP 0 S0 (qax t).1 = .inl s := hlp
   have hrk := qjH _ _ _ _ (by decide) hlp'
   show (bif decide (s.2.2.1 - 1 < 0) then _ else ((qcc (netS s)).bind _)) = some (bif decide (s.2.2.1 = 0) then _ else _)
   rw [show decide (s.2.2.1 - 1 < 0) = decide (s.2.2.1 = 0) from decide_eq_decide.2 (by omega)]
   cases decide (s.2.2.1 = 0) with
   | true => rfl
   | false =>
    rw [cond_false, cond_false, qhk, Option.bind_some]
    by_cases hc : qcF (netS s) = 0
    ·rw [hc]; rfl
    ·rw [dec_f hc]; rfl
 ·rw [dec_f h0]; rfl
/-! ### Format -/
theorem qsL {n : Int} (h : n.natAbs < 1000000000) : qfh n = some (Lib.itoa n) := by
 obtain ⟨D, hD, _, e⟩ := qsD n (by omega) (by omega)
 rw [e, qqw _ _ hD]
 unfold Lib.itoa
 by_cases h0 : n < 0
 ·rw [if_pos h0, if_pos h0]
 ·rw [if_neg h0, if_neg h0, show n.natAbs = n.toNat by omega]
theorem qie (k : Str) (names : List Str) (numbers : List Int) (h1 : names.length + numbers.length ≤ 100) (h2 : ∀ x ∈ numbers, x.natAbs < 1000000000) : qco k names numbers = some ((k :: names) ++ numbers.map Lib.itoa) := by
 unfold qco
 rw [gd_t (qaz (by omega))]
 have key := qjD numbers 0 Lib.itoa 1000 (step := fun x => qcn numbers x.1 x.2) ([k] ++ names) (by simp; omega) (fun i hi o ho => by
  show qcn numbers ((i : Nat) : Int) o = _
  unfold qcn
  rw [dec_t (by omega), cond_true, gd_t (inB_t hi), Int.toNat_natCast, qsL (h2 _ (qaC hi)), Option.bind_some, gd_t (qaz (by omega)), w1 hi (by omega)]) (fun o => by
  show qcn numbers ((numbers.length : Nat) : Int) o = _
  unfold qcn
  rw [dec_f (by omega)]; rfl)
 rw [key]; rfl
theorem qfU {lo hi x : Int} (h : lo ≤ x ∧ x ≤ hi) (h1 : -1000000000 < lo) (h2 : hi < 1000000000) : x.natAbs < 1000000000 := by omega
theorem qrx (n : Net) (i : Nat) (hv : ∀ p ∈ (n.2.1.getD i sg0).2.2.2.2.2.2, (0 ≤ p.1 ∧ p.1 ≤ 1000000) ∧ (-500 ≤ p.2.1 ∧ p.2.1 ≤ 5000) ∧ (0 ≤ p.2.2 ∧ p.2.2 ≤ 100000000)) (out : List (List Str)) (hl : out.length + (n.2.1.getD i sg0).2.2.2.2.2.2.length ≤ 1000) :
  iter (fun x2 => qbC n (i : Nat) x2.1 x2.2) (0, out) = some (out ++ (n.2.1.getD i sg0).2.2.2.2.2.2.map ptRow) := by
 refine qjD (n.2.1.getD i sg0).2.2.2.2.2.2 pt0 ptRow 1000 out hl (fun j hj o ho => ?_) (fun o => ?_)
 ·have c := hv _ (qaC (d := pt0) hj)
  show qbC n ((i : Nat) : Int) ((j : Nat) : Int) o = _
  unfold qbC
  simp only [Int.toNat_natCast]
  rw [dec_t (show (j : Int) < ((n.2.1.getD i sg0).2.2.2.2.2.2.length : Int) by omega), cond_true, gd_t (inB_t hj)]
  rw [qie _ _ _ (by simp) (fun x hx => by
   simp only [List.mem_cons, List.not_mem_nil, or_false] at hx
   rcases hx with rfl | rfl | rfl
   ·exact qfU c.1 (by decide) (by decide)
   ·exact qfU c.2.1 (by decide) (by decide)
   ·exact qfU c.2.2 (by decide) (by decide)), Option.bind_some, gd_t (qaz (by omega)), w1 hj (by omega)]
  rfl
 ·show qbC n ((i : Nat) : Int) (((n.2.1.getD i sg0).2.2.2.2.2.2.length : Nat) : Int) o = _
  unfold qbC
  simp only [Int.toNat_natCast]
  rw [dec_f (show ¬ ((((n.2.1.getD i sg0).2.2.2.2.2.2.length : Nat) : Int) < ((n.2.1.getD i sg0).2.2.2.2.2.2.length : Int)) by omega)]; rfl
theorem qkj {n : Net} (h0 : qcF n = 0) : qbs n = some (qeZ (rowsN n)) := by
 have h := qma h0
 have hs := h.small
 have b1 := hs.no; have b2 := hs.sg; have b3 := hs.po; have b4 := hs.st
 have e0 : qcc (n.1, (n.2.1, (n.2.2.1, (n.2.2.2.1, (n.2.2.2.2.1, n.2.2.2.2.2))))) = some 0 := (qhk _).trans (congrArg some h0)
 have l0 : iter (fun x => qbB n x.1 x.2) (0, [qkh n]) = some ([qkh n] ++ n.1.map qjE) := by
  refine qjD n.1 [] qjE 1000 [qkh n] (by simp; omega) (fun i hi o ho => ?_) (fun o => ?_)
  ·show qbB n ((i : Nat) : Int) o = _
   unfold qbB
   rw [dec_t (by omega), cond_true, gd_t (inB_t hi), Int.toNat_natCast, qie _ _ _ (by simp) (fun x hx => by cases hx), Option.bind_some, gd_t (qaz (by omega)), w1 hi (by omega)]; rfl
  ·show qbB n ((n.1.length : Nat) : Int) o = _
   unfold qbB
   rw [dec_f (by omega)]; rfl
 have l1 : ∀ out : List (List Str), out.length ≤ 30 → iter (fun x => qbD n x.1 x.2) (0, out) = some (out ++ n.2.1.flatMap (qdp n.1)) := by
  intro out ho0
  refine qqy n.2.1 sg0 (qdp n.1) 9 900 (fun s hs => by unfold qdp; have := (h.seg hs).l2; simp; omega) out (by omega) (fun i hi o ho => ?_) (fun o => ?_)
  ·have hv := h.seg (qaC (d := sg0) hi)
   show qbD n ((i : Nat) : Int) o = _
   unfold qbD
   simp only [Int.toNat_natCast]
   rw [dec_t (by omega), cond_true, gd_t (inB_t hi), gd_t (inB_i hv.f), gd_t (inB_i hv.t)]
   have c1 := hv.cap; have c2 := hv.res; have c3 := hv.wav; have c4 := hv.l2
   rw [qie _ _ _ (by simp) (fun x hx => by
    simp only [List.mem_cons, List.not_mem_nil, or_false] at hx
    rcases hx with rfl | rfl | rfl
    ·exact qfU c1 (by decide) (by decide)
    ·exact qfU c2 (by decide) (by decide)
    ·exact qfU c3 (by decide) (by decide)), Option.bind_some, gd_t (qaz (by omega))]
   rw [qrx n i hv.pts _ (by rw [List.length_append, List.length_singleton]; omega), Option.bind_some, w1 hi (by omega)]
   unfold qdp
   rw [List.append_assoc]; rfl
  ·show qbD n ((n.2.1.length : Nat) : Int) o = _
   unfold qbD
   rw [dec_f (by omega)]; rfl
 have l3 : ∀ out : List (List Str), out.length ≤ 900 → iter (fun x => qbE n x.1 x.2) (0, out) = some (out ++ n.2.2.1.map (qjF n.1)) := by
  intro out ho0
  refine qjD n.2.2.1 po0 (qjF n.1) 1000 out (by omega) (fun i hi o ho => ?_) (fun o => ?_)
  ·have hv := h.port (qaC (d := po0) hi)
   show qbE n ((i : Nat) : Int) o = _
   unfold qbE
   simp only [Int.toNat_natCast]
   rw [dec_t (by omega), cond_true, gd_t (inB_t hi), gd_t (inB_i hv.1)]
   rw [qie _ _ _ (by simp) (fun x hx => by
    rw [List.mem_singleton.1 hx]
    exact qfU hv.2 (by decide) (by decide)), Option.bind_some, gd_t (qaz (by omega)), w1 hi (by omega)]; rfl
  ·show qbE n ((n.2.2.1.length : Nat) : Int) o = _
   unfold qbE
   rw [dec_f (by omega)]; rfl
 have l4 : ∀ out : List (List Str), out.length ≤ 950 → iter (fun x => qbF n x.1 x.2) (0, out) = some (out ++ n.2.2.2.1.map (ql9 n.1)) := by
  intro out ho0
  refine qjD n.2.2.2.1 sta0 (ql9 n.1) 1000 out (by omega) (fun i hi o ho => ?_) (fun o => ?_)
  ·have hv := h.stat (qaC (d := sta0) hi)
   show qbF n ((i : Nat) : Int) o = _
   unfold qbF
   simp only [Int.toNat_natCast]
   rw [dec_t (by omega), cond_true, gd_t (inB_t hi), gd_t (inB_i hv.1)]
   rw [qie _ _ _ (by simp) (fun x hx => by
    simp only [List.mem_cons, List.not_mem_nil, or_false] at hx
    have c1 := hv.2.1; have c2 := hv.2.2.1; have c3 := hv.2.2.2
    rcases hx with rfl | rfl | rfl
    ·exact qfU c1 (by decide) (by decide)
    ·exact qfU c2 (by decide) (by decide)
    ·exact qfU c3 (by decide) (by decide)), Option.bind_some, gd_t (qaz (by omega)), w1 hi (by omega)]; rfl
  ·show qbF n ((n.2.2.2.1.length : Nat) : Int) o = _
   unfold qbF
   rw [dec_f (by omega)]; rfl
 have hfm := qqA (f := qdp n.1) (K := 9) (l := n.2.1) (fun s hs => by unfold qdp; have := (h.seg hs).l2; simp; omega)
 unfold qbs
 rw [e0, Option.bind_some]
 rw [show (!decide ((0 : Int) = 0)) = false from rfl, cond_false]
 have htwo := h.two
 rw [qie _ _ _ (by simp) (fun x hx => by
  simp only [List.mem_cons, List.not_mem_nil, or_false] at hx
  have c1 := htwo.1; have c2 := htwo.2
  rcases hx with rfl | rfl
  ·exact qfU c1 (by decide) (by decide)
  ·exact qfU c2 (by decide) (by decide)), Option.bind_some]
 refine (congrArg (fun o => Option.bind o _) l0).trans ?_
 rw [Option.bind_some, l1 _ (by simp; omega), Option.bind_some, l3 _ (by simp only [List.length_append, List.length_map, List.length_singleton]; omega), Option.bind_some, l4 _ (by simp only [List.length_append, List.length_map, List.length_singleton]; omega), Option.bind_some]
 have hj : qfi (rowsN n) = some (qeZ (rowsN n)) := qrr _ (qsF h.rows)
 refine (congrArg (fun o => Option.bind o _) hj).trans ?_
 rfl
theorem qne {n : Net} (h0 : qcF n ≠ 0) : qbs n = some ([], qcF n) := by
 unfold qbs
 have e0 : qcc (n.1, (n.2.1, (n.2.2.1, (n.2.2.2.1, (n.2.2.2.2.1, n.2.2.2.2.2))))) = some (qcF n) := qhk _
 rw [e0, Option.bind_some, dec_f h0]; rfl
end Go.Proofs.YtpgigbdefbeagaaGreatDoor
namespace Go.Proofs.YtpgigbdefbeagaaGreatDoor
open Go Go.Sq
theorem qry (t : Str) : Sml (qaW t).1 := by
 have z : Sml N0 := ⟨by decide, by decide, by decide, by decide, fun g hg => by cases hg⟩
 unfold qaW
 cases decide ((qax t).2 = 0) with
 | false => exact z
 | true =>
  rw [cond_true]
  cases loopP 0 S0 (qax t).1 with
  | inr p => exact z
  | inl s =>
   show Sml (bif decide (s.2.2.1 = 0) then (N0, (0 : Int), (3 : Int)) else bif decide (qcF (netS s) = 0) then (netS s, 0, 0) else (N0, 0, qcF (netS s))).1
   cases decide (s.2.2.1 = 0) with
   | true => exact z
   | false =>
    rw [cond_false]
    by_cases hc : qcF (netS s) = 0
    ·rw [dec_t hc]; exact (qma hc).sml
    ·rw [dec_f hc]; exact z
theorem qrz (l : List (List Str)) : (qeZ l).1.length ≤ 16384 := by
 unfold qeZ
 cases Nat.blt 400 l.length with
 | true => exact Nat.zero_le _
 | false => cases l.all qa7 with
  | false => exact Nat.zero_le _
  | true => cases hb : Nat.blt 16384 (txt l).length with
   | true => exact Nat.zero_le _
   | false =>
    show (txt l).length ≤ 16384
    rcases Nat.lt_or_ge 16384 (txt l).length with h | h
    ·rw [show Nat.blt 16384 (txt l).length = true by rw [Nat.blt_eq]; exact h] at hb; cases hb
    ·exact h
theorem qnf (n : Net) : ∃ x e, qbs n = some (x, e) ∧ x.length ≤ 16384 := by
 by_cases h : qcF n = 0
 ·exact ⟨_, _, qkj h, qrz _⟩
 ·exact ⟨[], _, qne h, Nat.zero_le _⟩
theorem qrA {a : List (List Str)} (h : ∀ w ∈ a, qa7 w = true) : lns (txt a) = a.map joinS := by
 have := qqo [] h
 rw [List.append_nil] at this
 rw [this]; simp [lns]
theorem qrB (t : Str) (ht : t.length ≤ 1000000) {A : Type} (x y : A) : ((qbK t).bind fun r11 => (qeJ t).bind fun r12 => (Option.bind (α := Bool) ((qel (r11.1.1, (r11.1.2.1, (r11.1.2.2.1, (r11.1.2.2.2.1, (r11.1.2.2.2.2.1, r11.1.2.2.2.2.2))))) (r12.1.1, (r12.1.2.1, (r12.1.2.2.1, (r12.1.2.2.2.1, (r12.1.2.2.2.2.1, r12.1.2.2.2.2.2)))))).bind fun r13 => bif !r13 then some true else (bif !decide (r11.2.1 = r12.2.1) then some true else some (!decide (r11.2.2 = r12.2.2)))) fun s7 => bif s7 then some x else some y)) = some y := by
 rw [qrv ht, qqH ht, Option.bind_some, Option.bind_some]
 have e2 : qel ((qaW t).1.1, ((qaW t).1.2.1, ((qaW t).1.2.2.1, ((qaW t).1.2.2.2.1, ((qaW t).1.2.2.2.2.1, (qaW t).1.2.2.2.2.2))))) ((qaW t).1.1, ((qaW t).1.2.1, ((qaW t).1.2.2.1, ((qaW t).1.2.2.2.1, ((qaW t).1.2.2.2.2.1, (qaW t).1.2.2.2.2.2))))) = some true := qqD (qry t)
 rw [e2, Option.bind_some]
 simp only [Bool.not_true, cond_false, decide_true, Option.bind_some]
abbrev LX := Str × Str × Str × Int × List Int × Int × List Str
theorem qoI {i k : Int} (hi : 0 ≤ i ∧ i < 256) (hk : 0 ≤ k ∧ k < 256) {L : List Str} (h1 : 1 ≤ L.length) (h2 : L.length ≤ 1000) (hb : ∀ x ∈ L, x.length ≤ 91) {d : List Int} {p : Int} (hs : SrcOk d p) :
  Ok (iter (fun x => qa6 i k L x.1 x.2.1 x.2.2.1 x.2.2.2.1 x.2.2.2.2.1 x.2.2.2.2.2.1 x.2.2.2.2.2.2) ([], [], [], 0, d, p, L)) fun q => q.1.length ≤ 200000 ∧ q.2.1.length ≤ 200000 ∧ q.2.2.length ≤ 200000 := by
 obtain ⟨a, ha, hal⟩ := cut8 (n := L.length) hi (by omega)
 obtain ⟨b, hb', hbl⟩ := cut8 (n := L.length) hk (by omega)
 refine Ok.loop (step := fun x : LX => qa6 i k L x.1 x.2.1 x.2.2.1 x.2.2.2.1 x.2.2.2.2.1 x.2.2.2.2.2.1 x.2.2.2.2.2.2) (fun x => x.2.2.2.2.2.2 = L ∧ SrcOk x.2.2.2.2.1 x.2.2.2.2.2.1 ∧ ∃ j : Nat, x.2.2.2.1 = (j : Int) ∧ j ≤ L.length ∧ x.1.length ≤ 92 * j ∧ x.2.1.length ≤ 92 * j ∧ x.2.2.1.length ≤ 122 * j) (fun x => L.length - x.2.2.2.1.toNat) ⟨rfl, hs, 0, rfl, Nat.zero_le _, Nat.zero_le _, Nat.zero_le _, Nat.zero_le _⟩ ?_
 rintro ⟨sw, le, mo, v, d, p, L'⟩ ⟨e, hs, j, ej, hj, q1, q2, q3⟩
 simp only at e hs ej q1 q2 q3
 subst e ej
 show Ok (qa6 i k L' sw le mo ((j : Nat) : Int) d p L') _
 unfold qa6
 rw [ha, hb']
 refine Ok.bif (fun hc => ?_) (fun hc => ?_)
 ·have hjl : j < L'.length := by have := of_decide_eq_true hc; omega
  -- the line that is put here
  have hsel : ∃ y : Nat, y < L'.length ∧ (bif decide (((j : Nat) : Int) = ((a : Nat) : Int)) then some (((b : Nat) : Int), L') else (Option.bind (α := Int × List Str) (bif decide (((j : Nat) : Int) = ((b : Nat) : Int)) then some (((a : Nat) : Int), L') else some (((j : Nat) : Int), L')) fun s2 => some (s2.1, s2.2))) = some (((y : Nat) : Int), L') := by
   cases decide (((j : Nat) : Int) = ((a : Nat) : Int)) with
   | true => exact ⟨b, hbl, rfl⟩
   | false => cases decide (((j : Nat) : Int) = ((b : Nat) : Int)) with
    | true => exact ⟨a, hal, rfl⟩
    | false => exact ⟨j, hjl, rfl⟩
  obtain ⟨y, hy, hsel⟩ := hsel
  refine Ok.eq hsel ?_
  have by1 := hb _ (qaC (d := ([] : Str)) hy)
  have bj1 := hb _ (qaC (d := ([] : Str)) hjl)
  simp only [Int.toNat_natCast]
  refine Ok.gd (inB_t hy) ?_
  refine Ok.gd (Nat.ble_eq_true_of_le (by simp only [List.length_cons, List.length_nil]; omega)) ?_
  refine Ok.gd (Nat.ble_eq_true_of_le (by simp only [List.length_append, List.length_cons, List.length_nil]; omega)) ?_
  refine Ok.bind (Q := fun s4 => s4.2 = L' ∧ s4.1.length ≤ 92 * (j + 1)) (Ok.bif (fun _ => ?_) (fun _ => Ok.ret ⟨rfl, by show le.length ≤ _; omega⟩)) ?_
  ·refine Ok.gd (inB_t hjl) ?_
   refine Ok.gd (Nat.ble_eq_true_of_le (by simp only [List.length_cons, List.length_nil]; omega)) ?_
   refine Ok.gd (Nat.ble_eq_true_of_le (by simp only [List.length_append, List.length_cons, List.length_nil]; omega)) ?_
   exact Ok.ret ⟨rfl, by simp only [List.length_append, List.length_cons, List.length_nil]; omega⟩
  rintro ⟨le2, L2⟩ ⟨e4, hle⟩
  replace e4 : L2 = L' := e4
  subst e4
  simp only at hle ⊢
  refine Ok.gd (inB_t hjl) ?_
  refine Ok.gd (Nat.ble_eq_true_of_le (by simp only [List.length_cons, List.length_nil]; omega)) ?_
  refine Ok.gd (Nat.ble_eq_true_of_le (by simp only [List.length_append, List.length_cons, List.length_nil]; omega)) ?_
  refine Ok.bind (Q := fun s5 => s5.2.2.2 = L2 ∧ SrcOk s5.2.1 s5.2.2.1 ∧ s5.1.length ≤ 122 * (j + 1)) (Ok.bif (fun _ => ?_) (fun _ => Ok.ret ⟨rfl, hs, by simp only [List.length_append, List.length_cons, List.length_nil]; omega⟩)) ?_
  ·refine Ok.bind (sT hs (by simp) (by simp)) ?_
   rintro ⟨x, s1, p1⟩ ⟨hs1, hx⟩
   have hxl : x.length ≤ 29 := by
    have hall : ∀ y ∈ ([[110, 111, 100, 101, 32, 120], [112, 111, 105, 110, 116, 32, 53, 32, 48, 32, 48], [112, 111, 114, 116, 32, 122, 32, 110, 97, 32, 53], [110, 101, 116, 119, 111, 114, 107, 32, 48, 32, 48], [115, 116, 97, 116, 105, 111, 110, 32, 119, 32, 110, 98, 32, 49, 32, 49, 32, 49], [115, 101, 103, 109, 101, 110, 116, 32, 121, 32, 110, 97, 32, 110, 98, 32, 53, 32, 49, 32, 49], [112, 105, 112, 101], [110, 111, 100, 101], [112, 111, 114, 116, 32, 122, 32, 110, 122, 32, 53], [112, 111, 105, 110, 116, 32, 120, 32, 48, 32, 48], [35, 32, 112, 111, 105, 110, 116], []] : List Str), y.length ≤ 29 := by decide +kernel
    exact hall x hx
   simp only
   refine Ok.gd (Nat.ble_eq_true_of_le (by simp only [List.length_cons, List.length_nil]; omega)) ?_
   refine Ok.gd (Nat.ble_eq_true_of_le (by simp only [List.length_append, List.length_cons, List.length_nil]; omega)) ?_
   exact Ok.ret ⟨rfl, hs1, by simp only [List.length_append, List.length_cons, List.length_nil]; omega⟩
  rintro ⟨mo2, d2, p2, L3⟩ ⟨e5, hs2, hmo⟩
  replace e5 : L3 = L2 := e5
  subst e5
  simp only at hs2 hmo ⊢
  rw [w1 hjl (by omega)]
  refine Ok.ret ⟨⟨rfl, hs2, j + 1, rfl, by omega, ?_, hle, hmo⟩, ?_⟩
  ·simp only [List.length_append, List.length_cons, List.length_nil]; omega
  ·show L3.length - (((j + 1 : Nat) : Int)).toNat < L3.length - (((j : Nat) : Int)).toNat
   rw [Int.toNat_natCast, Int.toNat_natCast]; omega
 ·exact Ok.ret ⟨by show sw.length ≤ 200000; omega, by show le.length ≤ 200000; omega, by show mo.length ≤ 200000; omega⟩
theorem qoJ {l : List Int} (s : Str) (hl : ∀ x ∈ l, i64P x) (i : Int) (hi : 0 ≤ i ∧ i < 256) (k : Int) (hk : 0 ≤ k ∧ k < 256) : qdo s l i k = some true := by
 refine Ok.true ?_
 unfold qdo
 refine Ok.bif (fun _ => ?_) (fun hc => ?_)
 ·refine Ok.eq qkc ?_
  exact Ok.ret rfl
 have hsl : s.length ≤ 1000 := by have := of_decide_eq_false hc; omega
 obtain ⟨s0, h0, hs⟩ := qs1 hl
 refine Ok.eq h0 ?_
 refine Ok.bind (qr1 hs) ?_
 rintro ⟨n, s', p'⟩ ⟨es, hs1, kk, hn⟩
 replace hn : NetP kk n := hn
 replace hs1 : SrcOk s0 p' := hs1
 replace es : s' = s0 := es
 subst es
 have hc := chk0 hn
 have hv := qma hc
 have b1 := hn.k2; have b2 := hn.k6
 have b3 := hn.ports.len; have b5 := hn.stats.len; have b6 := hn.segs.len
 have la : (rowsN n).length ≤ 100 := by
  have := qsG hn
  show ((hdN n ++ n.2.2.1.map (qjF n.1)) ++ n.2.2.2.1.map (ql9 n.1)).length ≤ 100
  simp only [List.length_append, List.length_map]; omega
 have la1 : 1 ≤ (rowsN n).length := by
  show 1 ≤ (((([qkh n] ++ n.1.map qjE) ++ n.2.1.flatMap (qdp n.1)) ++ n.2.2.1.map (qjF n.1)) ++ n.2.2.2.1.map (ql9 n.1)).length
  simp only [List.length_append, List.length_singleton]; omega
 have ft := qtd hc (by omega)
 have hpr : ∀ w ∈ rowsN n, qa7 w = true := fun w hw => (hv.rows w hw).pr
 have f1 : qbs n = some (txt (rowsN n), 0) := by rw [qkj hc, qro hpr (by omega) (by omega)]
 simp only
 refine Ok.eq f1 ?_
 refine Ok.bind (qr1 hs1) ?_
 rintro ⟨n2, s2, p2⟩ ⟨es2, hs2, kk2, hn2⟩
 replace hn2 : NetP kk2 n2 := hn2
 replace hs2 : SrcOk s' p2 := hs2
 replace es2 : s2 = s' := es2
 subst es2
 simp only
 refine Ok.bind (wrong6 hn2 hs2) ?_
 rintro ⟨n3, s3, p3⟩ ⟨hs3, _⟩
 replace hs3 : SrcOk s3 p3 := hs3
 simp only
 obtain ⟨x7, e7, f7, l7⟩ := qnf n3
 refine Ok.eq f7 ?_
 have hL : qfC (txt (rowsN n)) = some ((rowsN n).map joinS) := by
  unfold qfC
  rw [ql5 _ (by omega), qrA hpr]; rfl
 refine Ok.eq hL ?_
 have hLl : ((rowsN n).map joinS).length = (rowsN n).length := by rw [List.length_map]
 refine Ok.gd (by rw [dec_f (by omega)]; rfl) ?_
 refine Ok.gd (by rw [dec_f (by omega)]; rfl) ?_
 refine Ok.bind (qoI hi hk (by omega) (by omega) (fun x hx => by
  obtain ⟨w, hw, rfl⟩ := List.mem_map.1 hx
  have h1 := qqz (hv.rows w hw)
  have h2 := qk9 w
  unfold szW at h1
  omega) hs3) ?_
 rintro ⟨sw, le, mo⟩ ⟨q1, q2, q3⟩
 simp only at q1 q2 q3 ⊢
 refine Ok.gd (Nat.ble_eq_true_of_le (by omega)) ?_
 obtain ⟨T, hT, hTl⟩ : ∃ T, qgB = some T ∧ T.length ≤ 1000 := ⟨_, rfl, Nat.le_of_ble_eq_true (by kernel_rfl)⟩
 refine Ok.eq hT ?_
 have key : iter (fun x2 => qaA s (txt (rowsN n), 0) (x7, e7) (sw, le, mo) T x2) 0 = some (.inl ()) := by
  have hall : ∀ y ∈ [s, txt (rowsN n), x7, txt (rowsN n) ++ s, sw, le, mo, T], y.length ≤ 1000000 := by
   intro y hy
   simp only [List.mem_cons, List.not_mem_nil, or_false] at hy
   rcases hy with rfl | rfl | rfl | rfl | rfl | rfl | rfl | rfl
   ·omega
   ·omega
   ·omega
   ·rw [List.length_append]; omega
   ·omega
   ·omega
   ·omega
   ·omega
  refine qb0 (step := fun x2 => qaA s (txt (rowsN n), 0) (x7, e7) (sw, le, mo) T x2) 8 (fun i => ((i : Nat) : Int)) (fun i hi => ?_) ?_
  ·show qaA s (txt (rowsN n), 0) (x7, e7) (sw, le, mo) T ((i : Nat) : Int) = _
   unfold qaA
   simp only [Int.toNat_natCast]
   rw [dec_t (show ((i : Nat) : Int) < ((List.length [s, txt (rowsN n), x7, txt (rowsN n) ++ s, sw, le, mo, T] : Nat) : Int) by show (i : Int) < 8; omega), cond_true, gd_t (inB_t (show i < List.length [s, txt (rowsN n), x7, txt (rowsN n) ++ s, sw, le, mo, T] from hi))]
   rw [qrB _ (hall _ (qaC (d := ([] : Str)) hi)), w1 hi (by decide)]
  ·show qaA s (txt (rowsN n), 0) (x7, e7) (sw, le, mo) T ((8 : Nat) : Int) = _
   unfold qaA
   rw [dec_f (show ¬ ((8 : Nat) : Int) < ((List.length [s, txt (rowsN n), x7, txt (rowsN n) ++ s, sw, le, mo, T] : Nat) : Int) by show ¬ (8 : Int) < 8; omega)]; rfl
 refine Ok.eq key ?_
 rw [Sum.elim_inl]
 refine Ok.eq qkc ?_
 exact Ok.ret rfl
end Go.Proofs.YtpgigbdefbeagaaGreatDoor
