/- A line of a network's text. No condition. -/
import Derived.Test.YtpgigbdefbeagaaGreatDoorNp1
namespace Go.Proofs.YtpgigbdefbeagaaGreatDoor
open Go Go.Sq
abbrev RS := Int × Int × Int × Str × List Str × List Seg × List Port × List Stat
def okN (s : Str) : Bool := decide ((qfG s).2 = 0)
def qdV (l : List Str) : List Int := l.map fun s => (qfG s).1
def qam (l : List Str) (x : Str) : Int := if l.findIdx (fun y => decide (x = y)) < l.length then ((l.findIdx (fun y => decide (x = y)) : Nat) : Int) else -1
def addPt (l : List Seg) (p : Pt) : List Seg :=
 l.set (l.length - 1) ((l.getD (l.length - 1) sg0).1, (l.getD (l.length - 1) sg0).2.1, (l.getD (l.length - 1) sg0).2.2.1, (l.getD (l.length - 1) sg0).2.2.2.1, (l.getD (l.length - 1) sg0).2.2.2.2.1, (l.getD (l.length - 1) sg0).2.2.2.2.2.1, (l.getD (l.length - 1) sg0).2.2.2.2.2.2 ++ [p])
def ordB (fr rank : Int) (k last : Str) : Bool := !(decide (rank = 0) == decide (fr = 1)) || (decide (fr < rank) || (decide (k = kPt) && (!decide (last = kSeg) && !decide (last = kPt))))
def takeS (x : Nat) (w : List Str) (m : List Int) (fr : Int) : RS → Int ⊕ RS
 | (v, se, _, _, nodes, segs, ports, stats) => match x with
  | 1 => .inr (m.getD 0 0, m.getD 1 0, fr, w.getD 0 [], nodes, segs, ports, stats)
  | 2 => .inr (v, se, fr, w.getD 0 [], nodes ++ [w.getD 1 []], segs, ports, stats)
  | 3 => bif decide (qam nodes (w.getD 2 []) = -1) || decide (qam nodes (w.getD 3 []) = -1) then .inl 8 else .inr (v, se, fr, w.getD 0 [], nodes, segs ++ [(w.getD 1 [], qam nodes (w.getD 2 []), qam nodes (w.getD 3 []), m.getD 0 0, m.getD 1 0, m.getD 2 0, [])], ports, stats)
  | 4 => .inr (v, se, fr, w.getD 0 [], nodes, addPt segs (m.getD 0 0, m.getD 1 0, m.getD 2 0), ports, stats)
  | 5 => bif decide (qam nodes (w.getD 2 []) = -1) then .inl 8 else .inr (v, se, fr, w.getD 0 [], nodes, segs, ports ++ [(w.getD 1 [], qam nodes (w.getD 2 []), m.getD 0 0)], stats)
  | _ => bif decide (qam nodes (w.getD 2 []) = -1) then .inl 8 else .inr (v, se, fr, w.getD 0 [], nodes, segs, ports, stats ++ [(w.getD 1 [], qam nodes (w.getD 2 []), m.getD 0 0, m.getD 1 0, m.getD 2 0)])
def qbw (k : Str) : Nat := bif decide (k = kNet) then 1 else bif decide (k = kNode) then 2 else bif decide (k = kSeg) then 3 else bif decide (k = kPt) then 4 else bif decide (k = kPort) then 5 else bif decide (k = kSta) then 6 else 0
def wdOf (x : Nat) : Nat := [0, 2, 1, 6, 3, 3, 5].getD x 0
def nmOf (x : Nat) : Nat := [0, 0, 1, 3, 0, 2, 2].getD x 0
def frOf (x : Nat) : Int := ([0, 1, 2, 3, 3, 4, 5] : List Int).getD x 0
def qb3 (w : List Str) (s : RS) : Int ⊕ RS :=
 bif Nat.beq (qbw (w.getD 0 [])) 0 then .inl 3 else
 bif !decide (w.length = wdOf (qbw (w.getD 0 [])) + 1) then .inl 3 else
 bif !(w.drop (1 + nmOf (qbw (w.getD 0 [])))).all okN then .inl 3 else
 bif ordB (frOf (qbw (w.getD 0 []))) s.2.2.1 (w.getD 0 []) s.2.2.2.1 then .inl 6 else
 takeS (qbw (w.getD 0 [])) w (qdV (w.drop (1 + nmOf (qbw (w.getD 0 []))))) (frOf (qbw (w.getD 0 []))) s
theorem qhZ (k : Str) : qaM qac k = qbw k := by
 unfold qac qbw
 simp only [qaM]
 have key : ∀ a : Str, (a == k) = decide (k = a) := fun a => by
  by_cases h : k = a
  ·subst h; simp
  ·rw [decide_eq_false h]; simpa using fun e => h e.symm
 simp only [key]
 generalize decide (k = [110, 101, 116, 119, 111, 114, 107]) = a
 generalize decide (k = [110, 111, 100, 101]) = b
 generalize decide (k = [115, 101, 103, 109, 101, 110, 116]) = c
 generalize decide (k = [112, 111, 105, 110, 116]) = d
 generalize decide (k = [112, 111, 114, 116]) = e
 generalize decide (k = [115, 116, 97, 116, 105, 111, 110]) = f
 cases a <;> cases b <;> cases c <;> cases d <;> cases e <;> cases f <;> rfl
theorem qjG (k : Str) : qbw k ≤ 6 := by
 unfold qbw
 generalize decide (k = kNet) = a
 generalize decide (k = kNode) = b
 generalize decide (k = kSeg) = c
 generalize decide (k = kPt) = d
 generalize decide (k = kPort) = e
 generalize decide (k = kSta) = f
 cases a <;> cases b <;> cases c <;> cases d <;> cases e <;> cases f <;> decide
theorem qmb : ∀ x, x ≤ 6 → dispN qac 0 x = frOf x ∧ dispN qac 1 x = ((wdOf x : Nat) : Int) ∧ dispN qac 2 x = ((nmOf x : Nat) : Int) ∧ nmOf x ≤ wdOf x ∧ wdOf x ≤ 6 := by
 intro x hx
 match x, hx with
 | 0, _ => decide
 | 1, _ => decide
 | 2, _ => decide
 | 3, _ => decide
 | 4, _ => decide
 | 5, _ => decide
 | 6, _ => decide
 | n + 7, h => omega
/-! ### The methods -/
theorem iidx (s : List Int) (v : Int) (hl : s.length ≤ 1000000) : qby s v = some (if s.findIdx (fun x => decide (v = x)) < s.length then ((s.findIdx (fun x => decide (v = x)) : Nat) : Int) else -1) := by
 unfold qby
 have h : iter (fun x => qaB s v x) 0 = some (if s.findIdx (fun x => decide (v = x)) < s.length then .inr ((s.findIdx (fun x => decide (v = x)) : Nat) : Int) else .inl ()) := by
  refine qdU (step := fun y => qaB s v y) (ε := Unit ⊕ Int) s 0 (fun x => decide (v = x)) (fin := .inl ()) (fun i => .inr (i : Int)) (fun i hi hq => ?_) (fun i hi hq => ?_) ?_
  ·unfold qaB
   rw [dec_t (show (i : Int) < (s.length : Int) by omega), cond_true, gd_t (inB_t hi), Int.toNat_natCast, hq, cond_false, w1 hi (by omega)]
  ·unfold qaB
   rw [dec_t (show (i : Int) < (s.length : Int) by omega), cond_true, gd_t (inB_t hi), Int.toNat_natCast, hq, cond_true]
  ·unfold qaB
   rw [dec_f (by omega)]; rfl
 rw [h, Option.bind_some]
 by_cases hf : s.findIdx (fun x => decide (v = x)) < s.length
 ·rw [if_pos hf, if_pos hf]; rfl
 ·rw [if_neg hf, if_neg hf]; rfl
theorem qlb (l : List Int) (hl : l.length ≤ 1000000) : qcj l = some (bif l.any (fun x => decide (x = -1)) then 8 else 0) := by
 unfold qcj qbI
 rw [iidx l _ hl, Option.bind_some, Option.bind_some]
 have e : l.any (fun x => decide (x = -1)) = decide (l.findIdx (fun x => decide ((-1 : Int) = x)) < l.length) := by
  rw [qdA]
  congr 1
  funext x
  by_cases h : x = -1
  ·subst h; rfl
  ·rw [decide_eq_false h, decide_eq_false (fun e => h e.symm)]
 rw [e]
 by_cases h : l.findIdx (fun x => decide ((-1 : Int) = x)) < l.length
 ·rw [if_pos h, decide_eq_true h, dec_t (by omega)]; rfl
 ·rw [if_neg h, decide_eq_false h]; rfl
theorem qn2 (l : List Str) (x : Str) (hl : l.length ≤ 1000000) : qbt l x = some (qam l x) := by
 unfold qbt
 rw [sidx l x hl]; rfl
theorem inB1 {n : Nat} (h : 1 < n) : inB 1 n = true := qdW.2 ⟨by omega, by omega⟩
theorem inB2 {n : Nat} (h : 2 < n) : inB 2 n = true := qdW.2 ⟨by omega, by omega⟩
def qgt (o : Option (Int × RS)) : Int ⊕ RS → Prop
 | .inl c => ∃ s, o = some (c, s)
 | .inr s => o = some (0, s)
structure Bd (s : RS) : Prop where
 no : s.2.2.2.2.1.length ≤ 1000
 sg : s.2.2.2.2.2.1.length ≤ 1000
 po : s.2.2.2.2.2.2.1.length ≤ 1000
 st : s.2.2.2.2.2.2.2.length ≤ 1000
 pt : ∀ g ∈ s.2.2.2.2.2.1, g.2.2.2.2.2.2.length ≤ 1000
 ls : s.2.2.2.1 = kSeg ∨ s.2.2.2.1 = kPt → s.2.2.2.2.2.1 ≠ []
noncomputable def tailT (x : Nat) (ws : List Str) (m : List Int) (v se fr : Int) (k : Str) (nodes : List Str) (segs : List Seg) (ports : List Port) (stats : List Stat) : Option (Int × RS) :=
 bif decide (x = 1) then qaT ws m v se fr k nodes segs ports stats
 else bif decide (x = 2) then qbk ws m v se fr k nodes segs ports stats
 else bif decide (x = 3) then qaU ws m v se fr k nodes segs ports stats
 else bif decide (x = 4) then qbf ws m v se fr k nodes segs ports stats
 else bif decide (x = 5) then qbl ws m v se fr k nodes segs ports stats
 else bif decide (x = 6) then qaV ws m v se fr k nodes segs ports stats
 else none
theorem bind_eta' (o : Option (Int × RS)) : (o.bind fun r => some (r.1, r.2.1, r.2.2.1, r.2.2.2.1, r.2.2.2.2.1, r.2.2.2.2.2.1, r.2.2.2.2.2.2.1, r.2.2.2.2.2.2.2.1, r.2.2.2.2.2.2.2.2)) = o := by cases o <;> rfl
theorem qgu (w : List Str) (i j : Nat) (h : j ≤ i) (d : Str) : ((w.take (1 + i)).drop 1).getD j d = if j < i then w.getD (j + 1) d else d := by
 rw [qsi, qsh]
 by_cases hj : j < i
 ·rw [if_pos (by omega), if_pos hj, Nat.add_comm]
 ·rw [if_neg (by omega), if_neg hj]
theorem qsH {x : Nat} (h1 : 1 ≤ x) (h6 : x ≤ 6) {w : List Str} {s : RS} {m : List Int} {fr : Int} (hb : Bd s) (hw : w.length = wdOf x + 1) (hm : m.length = wdOf x - nmOf x) (ho : ordB (frOf x) s.2.2.1 (w.getD 0 []) s.2.2.2.1 = false) (hk : x = 4 → w.getD 0 [] = kPt) :
  qgt (tailT x ((w.take (1 + nmOf x)).drop 1) m s.1 s.2.1 fr (w.getD 0 []) s.2.2.2.2.1 s.2.2.2.2.2.1 s.2.2.2.2.2.2.1 s.2.2.2.2.2.2.2) (takeS x w m fr s) := by
 obtain ⟨v, se, r, la, nodes, segs, ports, stats⟩ := s
 have b1 : nodes.length ≤ 1000 := hb.no
 have b2 : segs.length ≤ 1000 := hb.sg
 have b3 : ports.length ≤ 1000 := hb.po
 have b4 : stats.length ≤ 1000 := hb.st
 have hlen : ∀ i, 1 + i ≤ w.length → ((w.take (1 + i)).drop 1).length = i := fun i h => by rw [List.length_drop, List.length_take]; omega
 match x, h1, h6 with
 | 1, _, _ =>
  have hm' : m.length = 2 := hm
  show qgt (qaT ((w.take (1 + 0)).drop 1) m v se fr (w.getD 0 []) nodes segs ports stats) _
  unfold qaT
  rw [gd_t (inB0 (by omega)), gd_t (inB1 (by omega))]; rfl
 | 2, _, _ =>
  have hw' : w.length = 2 := hw
  show qgt (qbk ((w.take (1 + 1)).drop 1) m v se fr (w.getD 0 []) nodes segs ports stats) _
  unfold qbk
  rw [gd_t (inB0 (by rw [hlen 1 (by omega)]; omega)), gd_t (qaz (by omega)), qgu w 1 0 (by omega), if_pos (by omega)]; rfl
 | 3, _, _ =>
  have hw' : w.length = 7 := hw
  have hm' : m.length = 3 := hm
  show qgt (qaU ((w.take (1 + 3)).drop 1) m v se fr (w.getD 0 []) nodes segs ports stats) _
  unfold qaU
  rw [gd_t (inB0 (by rw [hlen 3 (by omega)]; omega)), gd_t (inB1 (by rw [hlen 3 (by omega)]; omega)), qgu w 3 1 (by omega), if_pos (by omega), qn2 _ _ (by omega), Option.bind_some, gd_t (inB2 (by rw [hlen 3 (by omega)]; omega)), qgu w 3 2 (by omega), if_pos (by omega), qn2 _ _ (by omega), Option.bind_some,
   gd_t (inB0 (by omega)), gd_t (inB1 (by omega)), gd_t (inB2 (by omega)), gd_t (qaz (by omega)), qlb _ (by simp), Option.bind_some, qgu w 3 0 (by omega), if_pos (by omega)]
  show qgt (some ((bif (decide (qam nodes (w.getD 2 []) = -1) || (decide (qam nodes (w.getD 3 []) = -1) || false)) then 8 else 0), _)) (bif decide (qam nodes (w.getD 2 []) = -1) || decide (qam nodes (w.getD 3 []) = -1) then .inl 8 else _)
  rw [Bool.or_false]
  cases decide (qam nodes (w.getD 2 []) = -1) || decide (qam nodes (w.getD 3 []) = -1) with
  | true => exact ⟨_, rfl⟩
  | false => exact rfl
 | 4, _, _ =>
  have hm' : m.length = 3 := hm
  have hk' : w.getD 0 [] = kPt := hk rfl
  have hne : 0 < segs.length := by
   rw [hk'] at ho
   unfold ordB at ho
   rw [dec_t (show kPt = kPt from rfl)] at ho
   simp only [Bool.or_eq_false_iff, Bool.true_and, Bool.and_eq_false_iff, Bool.not_eq_false', decide_eq_true_eq] at ho
   have hq : la = kSeg ∨ la = kPt := by
    rcases ho.2.2 with h | h
    ·exact .inl h
    ·exact .inr h
   have hs : segs ≠ [] := hb.ls hq
   cases segs with
   | nil => exact absurd rfl hs
   | cons a l => simp
  have hl1 : wi64 ((segs.length : Int) - 1) = ((segs.length - 1 : Nat) : Int) := by rw [wi (by omega)]; omega
  have hpt : (segs.getD (segs.length - 1) sg0).2.2.2.2.2.2.length ≤ 1000 := hb.pt _ (qaC (d := sg0) (show segs.length - 1 < segs.length by omega))
  show qgt (qbf ((w.take (1 + 0)).drop 1) m v se fr (w.getD 0 []) nodes segs ports stats) _
  unfold qbf
  rw [hl1, Int.toNat_natCast]
  rw [gd_t (inB_t (show segs.length - 1 < segs.length by omega)), gd_t (inB0 (by omega)), gd_t (inB1 (by omega)), gd_t (inB2 (by omega)), gd_t (qaz (by
   have : List.length ((segs.getD (segs.length - 1) ([], (0, (0, (0, (0, (0, []))))))).2.2.2.2.2.2) ≤ 1000 := hpt
   omega)), gd_t (Nat.beq_refl _)]
  rfl
 | 5, _, _ =>
  have hw' : w.length = 4 := hw
  have hm' : m.length = 1 := hm
  show qgt (qbl ((w.take (1 + 2)).drop 1) m v se fr (w.getD 0 []) nodes segs ports stats) _
  unfold qbl
  rw [gd_t (inB0 (by rw [hlen 2 (by omega)]; omega)), gd_t (inB1 (by rw [hlen 2 (by omega)]; omega)), qgu w 2 1 (by omega), if_pos (by omega), qn2 _ _ (by omega), Option.bind_some,
   gd_t (inB0 (by omega)), gd_t (qaz (by omega)), qlb _ (by simp), Option.bind_some, qgu w 2 0 (by omega), if_pos (by omega)]
  show qgt (some ((bif (decide (qam nodes (w.getD 2 []) = -1) || false) then 8 else 0), _)) (bif decide (qam nodes (w.getD 2 []) = -1) then .inl 8 else _)
  rw [Bool.or_false]
  cases decide (qam nodes (w.getD 2 []) = -1) with
  | true => exact ⟨_, rfl⟩
  | false => exact rfl
 | 6, _, _ =>
  have hw' : w.length = 6 := hw
  have hm' : m.length = 3 := hm
  show qgt (qaV ((w.take (1 + 2)).drop 1) m v se fr (w.getD 0 []) nodes segs ports stats) _
  unfold qaV
  rw [gd_t (inB0 (by rw [hlen 2 (by omega)]; omega)), gd_t (inB1 (by rw [hlen 2 (by omega)]; omega)), qgu w 2 1 (by omega), if_pos (by omega), qn2 _ _ (by omega), Option.bind_some,
   gd_t (inB0 (by omega)), gd_t (inB1 (by omega)), gd_t (inB2 (by omega)), gd_t (qaz (by omega)), qlb _ (by simp), Option.bind_some, qgu w 2 0 (by omega), if_pos (by omega)]
  show qgt (some ((bif (decide (qam nodes (w.getD 2 []) = -1) || false) then 8 else 0), _)) (bif decide (qam nodes (w.getD 2 []) = -1) then .inl 8 else _)
  rw [Bool.or_false]
  cases decide (qam nodes (w.getD 2 []) = -1) with
  | true => exact ⟨_, rfl⟩
  | false => exact rfl
 | n + 7, _, h => omega
/-! ### The line -/
theorem qqB (w : List Str) (f : Nat) (r10 : List Str) (r11 : List Seg) (r12 : List Port) (r13 : List Stat) (k : Nat) (hk : dispN qac 2 (qaM qac (w.getD 0 [])) = ((k : Nat) : Int)) (hk6 : k ≤ 6) (hl : w.length ≤ 1000) (hx : ∀ x ∈ w, x.length ≤ 1000000) :
  iter (fun x => qap w x.1 x.2.1 x.2.2.1 x.2.2.2.1 x.2.2.2.2.1 x.2.2.2.2.2.1 x.2.2.2.2.2.2) (0, f, [], r10, r11, r12, r13) = some (bif (w.drop (1 + k)).all okN then .inl (f, qdV (w.drop (1 + k)), r10, r11, r12, r13) else .inr (3, r10, r11, r12, r13)) := by
 have hw : (wi64 (1 + dispN qac 2 (qaM qac (w.getD 0 [])))).toNat = 1 + k := by rw [hk, wi (by omega)]; omega
 have hdl : (w.drop (1 + k)).length ≤ 1000 := by rw [List.length_drop]; omega
 have key := qci (step := fun x : Int × Nat × List Int × List Str × List Seg × List Port × List Stat => qap w x.1 x.2.1 x.2.2.1 x.2.2.2.1 x.2.2.2.2.1 x.2.2.2.2.2.1 x.2.2.2.2.2.2) (w.drop (1 + k)).length
  (fun i => (((i : Nat) : Int), f, qdV ((w.drop (1 + k)).take i), r10, r11, r12, r13)) (fun i => okN ((w.drop (1 + k)).getD i [])) (fin := .inl (f, qdV (w.drop (1 + k)), r10, r11, r12, r13)) (bad := .inr (3, r10, r11, r12, r13))
  (fun i hi _ hp => by
   have hm := hx _ (List.mem_of_mem_drop (qaC (d := []) hi))
   unfold okN at hp
   show qap w ((i : Nat) : Int) f (qdV ((w.drop (1 + k)).take i)) r10 r11 r12 r13 = _
   unfold qap
   rw [hw, dec_t (by omega), cond_true, gd_t (inB_t hi), Int.toNat_natCast, qr3 _ (by omega), Option.bind_some, hp]
   rw [Bool.not_true, cond_false, gd_t (qaz (by unfold qdV; rw [List.length_map, List.length_take]; omega)), w1 hi (by omega)]
   unfold qdV
   rw [qbe [] hi, List.map_append]; rfl)
  (fun i hi _ hp => by
   have hm := hx _ (List.mem_of_mem_drop (qaC (d := []) hi))
   unfold okN at hp
   show qap w ((i : Nat) : Int) f (qdV ((w.drop (1 + k)).take i)) r10 r11 r12 r13 = _
   unfold qap
   rw [hw, dec_t (by omega), cond_true, gd_t (inB_t hi), Int.toNat_natCast, qr3 _ (by omega), Option.bind_some, hp]; rfl)
  (fun _ => by
   show qap w (((w.drop (1 + k)).length : Nat) : Int) f (qdV ((w.drop (1 + k)).take (w.drop (1 + k)).length)) r10 r11 r12 r13 = _
   unfold qap
   rw [hw, dec_f (by omega), cond_false, List.take_length])
 have ea : (List.range (w.drop (1 + k)).length).all (fun i => okN ((w.drop (1 + k)).getD i [])) = (w.drop (1 + k)).all okN := qlW _ [] okN
 rw [ea] at key
 exact key
theorem qsI {w : List Str} {s : RS} (h0 : 0 < w.length) (hl : w.length ≤ 1000) (hx : ∀ x ∈ w, x.length ≤ 1000000) (hb : Bd s) :
  qgt (qaJ w s.1 s.2.1 s.2.2.1 s.2.2.2.1 s.2.2.2.2.1 s.2.2.2.2.2.1 s.2.2.2.2.2.2.1 s.2.2.2.2.2.2.2) (qb3 w s) := by
 have hk6 := qjG (w.getD 0 [])
 obtain ⟨d0, d1, d2, d3, d4⟩ := qmb _ hk6
 rw [← qhZ] at d0 d1 d2
 unfold qaJ qea qb3
 rw [Option.bind_some, gd_t (inB0 h0)]
 simp only [d0, d1, ← qhZ (w.getD 0 [])]
 have d2' := d2
 rw [qhZ] at d2'
 generalize hxx : qaM qac (w.getD 0 []) = x at d0 d1 d2 ⊢
 have hxk : qbw (w.getD 0 []) = x := by rw [← qhZ]; exact hxx
 rw [hxk] at d2' d3 d4 hk6
 cases hx0 : Nat.beq x 0 with
 | true => simp only [Bool.not_true, Bool.not_false, cond_true, Option.bind_some]; exact ⟨_, rfl⟩
 | false =>
  have hxp : 1 ≤ x := by
   rcases Nat.eq_zero_or_pos x with h | h
   ·subst h; cases hx0
   ·exact h
  simp only [Bool.not_false, Bool.not_true, cond_false, Option.bind_some]
  have e1 : decide ((w.length : Int) = wi64 (((wdOf x : Nat) : Int) + 1)) = decide (w.length = wdOf x + 1) := by
   rw [wi (by omega)]
   by_cases h : w.length = wdOf x + 1
   ·rw [dec_t h, dec_t (by omega)]
   ·rw [dec_f h, dec_f (by omega)]
  rw [e1]
  by_cases hw : w.length = wdOf x + 1
  ·rw [dec_t hw]
   simp only [Bool.not_true, cond_false]
   have hnum := qqB w x s.2.2.2.2.1 s.2.2.2.2.2.1 s.2.2.2.2.2.2.1 s.2.2.2.2.2.2.2 (nmOf x) (by rw [hxx]; exact d2) (by omega) hl hx
   rw [d2]
   have hwi : wi64 (1 + ((nmOf x : Nat) : Int)) = ((1 + nmOf x : Nat) : Int) := by rw [wi (by omega)]; omega
   rw [gd_t (by unfold cutG; rw [hwi]; simp; omega), hnum, Option.bind_some]
   cases hall : (w.drop (1 + nmOf x)).all okN with
   | false => exact ⟨_, rfl⟩
   | true =>
    simp only [cond_true, Bool.not_true, cond_false, Sum.elim_inl]
    have hord : ∀ {A : Type} (b : A), (bif !(decide (s.2.2.1 = 0) == decide (frOf x = 1)) then some (true, b) else (bif decide (frOf x < s.2.2.1) then some (true, b) else (gd (inB 0 w.length) <| bif decide (w.getD 0 [] = [112, 111, 105, 110, 116]) then (bif !decide (s.2.2.2.1 = [115, 101, 103, 109, 101, 110, 116]) then some ((!decide (s.2.2.2.1 = [112, 111, 105, 110, 116])), b) else some (false, b)) else some (false, b)))) = some (ordB (frOf x) s.2.2.1 (w.getD 0 []) s.2.2.2.1, b) := by
     intro A b
     rw [gd_t (inB0 h0)]
     unfold ordB
     cases decide (s.2.2.1 = 0) == decide (frOf x = 1) with
     | false => rfl
     | true => cases decide (frOf x < s.2.2.1) with
      | true => rfl
      | false => cases decide (w.getD 0 [] = kPt) with
       | false => rfl
       | true => cases decide (s.2.2.2.1 = kSeg) <;> rfl
    rw [hord, Option.bind_some]
    cases ho : ordB (frOf x) s.2.2.1 (w.getD 0 []) s.2.2.2.1 with
    | true => exact ⟨_, rfl⟩
    | false =>
     simp only [cond_false]
     rw [gd_t (inB0 h0), hwi, gd_t (by rw [show (1 : Int) = ((1 : Nat) : Int) from rfl]; exact inR_t (by omega) (by omega)), Int.toNat_natCast]
     have ht := qsH hxp hk6 (fr := frOf x) hb hw (m := qdV (w.drop (1 + nmOf x))) (by unfold qdV; rw [List.length_map, List.length_drop]; omega) ho (fun h4 => by
      rw [h4] at hxk
      unfold qbw at hxk
      generalize decide (w.getD 0 [] = kNet) = a at hxk
      generalize decide (w.getD 0 [] = kNode) = b at hxk
      generalize decide (w.getD 0 [] = kSeg) = c at hxk
      by_cases h : w.getD 0 [] = kPt
      ·exact h
      ·rw [dec_f h] at hxk
       generalize decide (w.getD 0 [] = kPort) = e at hxk
       generalize decide (w.getD 0 [] = kSta) = f at hxk
       cases a <;> cases b <;> cases c <;> cases e <;> cases f <;> cases hxk)
     unfold tailT at ht
     simp only [bind_eta'] at ht ⊢
     exact ht
  ·rw [dec_f hw]; exact ⟨_, rfl⟩
end Go.Proofs.YtpgigbdefbeagaaGreatDoor
namespace Go.Proofs.YtpgigbdefbeagaaGreatDoor
open Go Go.Sq
structure Bdk (k : Nat) (s : RS) : Prop where
 no : s.2.2.2.2.1.length ≤ k
 sg : s.2.2.2.2.2.1.length ≤ k
 po : s.2.2.2.2.2.2.1.length ≤ k
 st : s.2.2.2.2.2.2.2.length ≤ k
 pt : ∀ g ∈ s.2.2.2.2.2.1, g.2.2.2.2.2.2.length ≤ k
 ls : s.2.2.2.1 = kSeg ∨ s.2.2.2.1 = kPt → s.2.2.2.2.2.1 ≠ []
theorem Bdk.bd {k : Nat} {s : RS} (h : Bdk k s) (hk : k ≤ 1000) : Bd s :=
 ⟨Nat.le_trans h.no hk, Nat.le_trans h.sg hk, Nat.le_trans h.po hk, Nat.le_trans h.st hk, fun g hg => Nat.le_trans (h.pt g hg) hk, h.ls⟩
theorem qn3 (k : Str) : (k = kSeg → qbw k = 3) ∧ (k = kPt → qbw k = 4) := ⟨fun h => by subst h; decide, fun h => by subst h; decide⟩
theorem qmc (l : List Seg) (p : Pt) : (addPt l p).length = l.length := by unfold addPt; rw [List.length_set]
theorem qrt {l : List Seg} {p : Pt} {k : Nat} (h : ∀ g ∈ l, g.2.2.2.2.2.2.length ≤ k) : ∀ g ∈ addPt l p, g.2.2.2.2.2.2.length ≤ k + 1 := by
 intro g hg
 unfold addPt at hg
 rcases List.mem_or_eq_of_mem_set hg with hg | rfl
 ·have := h g hg; omega
 ·show List.length ((l.getD (l.length - 1) sg0).2.2.2.2.2.2 ++ [p]) ≤ k + 1
  rw [List.length_append, List.length_singleton]
  by_cases hl : l.length - 1 < l.length
  ·have := h _ (qaC (d := sg0) hl); omega
  ·rw [qsW (by omega)]; simp
theorem qsJ {x : Nat} {w : List Str} {m : List Int} {fr : Int} {s s' : RS} {k : Nat} (h1 : 1 ≤ x) (h6 : x ≤ 6) (hx : qbw (w.getD 0 []) = x) (hb : Bdk k s) (ho : ordB fr s.2.2.1 (w.getD 0 []) s.2.2.2.1 = false) (h : takeS x w m fr s = .inr s') : Bdk (k + 1) s' := by
 obtain ⟨v, se, r, la, nodes, segs, ports, stats⟩ := s
 have b1 : nodes.length ≤ k := hb.no
 have b2 : segs.length ≤ k := hb.sg
 have b3 : ports.length ≤ k := hb.po
 have b4 : stats.length ≤ k := hb.st
 have b5 : ∀ g ∈ segs, g.2.2.2.2.2.2.length ≤ k + 1 := fun g hg => Nat.le_succ_of_le (hb.pt g hg)
 have no3 : x ≠ 3 → x ≠ 4 → ∀ {A : Prop}, (w.getD 0 [] = kSeg ∨ w.getD 0 [] = kPt) → A := by
  intro n3 n4 A hh
  rcases hh with hh | hh
  ·exact absurd (hx.symm.trans ((qn3 _).1 hh)) n3
  ·exact absurd (hx.symm.trans ((qn3 _).2 hh)) n4
 match x, h1, h6 with
 | 1, _, _ =>
  injection h with h; subst h
  exact ⟨by show nodes.length ≤ k + 1; omega, by show segs.length ≤ k + 1; omega, by show ports.length ≤ k + 1; omega, by show stats.length ≤ k + 1; omega, b5, fun hh => no3 (by decide) (by decide) hh⟩
 | 2, _, _ =>
  injection h with h; subst h
  exact ⟨by show (nodes ++ [_]).length ≤ k + 1; rw [List.length_append, List.length_singleton]; omega, by show segs.length ≤ k + 1; omega, by show ports.length ≤ k + 1; omega, by show stats.length ≤ k + 1; omega, b5, fun hh => no3 (by decide) (by decide) hh⟩
 | 3, _, _ =>
  have h' : (bif decide (qam nodes (w.getD 2 []) = -1) || decide (qam nodes (w.getD 3 []) = -1) then (.inl 8 : Int ⊕ RS) else .inr (v, se, fr, w.getD 0 [], nodes, segs ++ [(w.getD 1 [], qam nodes (w.getD 2 []), qam nodes (w.getD 3 []), m.getD 0 0, m.getD 1 0, m.getD 2 0, [])], ports, stats)) = .inr s' := h
  cases hc : decide (qam nodes (w.getD 2 []) = -1) || decide (qam nodes (w.getD 3 []) = -1) with
  | true => rw [hc] at h'; cases h'
  | false =>
   rw [hc] at h'; injection h' with h'; subst h'
   refine ⟨by show nodes.length ≤ k + 1; omega, by show (segs ++ [_]).length ≤ k + 1; rw [List.length_append, List.length_singleton]; omega, by show ports.length ≤ k + 1; omega, by show stats.length ≤ k + 1; omega, fun g hg => ?_, fun _ => by show segs ++ [_] ≠ []; simp⟩
   rcases List.mem_append.1 hg with hg | hg
   ·exact b5 g hg
   ·rw [List.mem_singleton.1 hg]; exact Nat.zero_le _
 | 4, _, _ =>
  injection h with h; subst h
  have hk' : w.getD 0 [] = kPt := by
   unfold qbw at hx
   generalize decide (w.getD 0 [] = kNet) = a at hx
   generalize decide (w.getD 0 [] = kNode) = b at hx
   generalize decide (w.getD 0 [] = kSeg) = c at hx
   by_cases h : w.getD 0 [] = kPt
   ·exact h
   ·rw [dec_f h] at hx
    generalize decide (w.getD 0 [] = kPort) = e at hx
    generalize decide (w.getD 0 [] = kSta) = f at hx
    cases a <;> cases b <;> cases c <;> cases e <;> cases f <;> cases hx
  have hne : segs ≠ [] := by
   rw [hk'] at ho
   unfold ordB at ho
   rw [dec_t (show kPt = kPt from rfl)] at ho
   simp only [Bool.or_eq_false_iff, Bool.true_and, Bool.and_eq_false_iff, Bool.not_eq_false', decide_eq_true_eq] at ho
   refine hb.ls ?_
   rcases ho.2.2 with h | h
   ·exact .inl h
   ·exact .inr h
  refine ⟨by show nodes.length ≤ k + 1; omega, by show (addPt segs _).length ≤ k + 1; rw [qmc]; omega, by show ports.length ≤ k + 1; omega, by show stats.length ≤ k + 1; omega, qrt hb.pt, fun _ e => hne ?_⟩
  have e' : addPt segs (m.getD 0 0, m.getD 1 0, m.getD 2 0) = [] := e
  have := congrArg List.length e'
  rw [qmc] at this
  exact List.length_eq_zero_iff.1 this
 | 5, _, _ =>
  have h' : (bif decide (qam nodes (w.getD 2 []) = -1) then (.inl 8 : Int ⊕ RS) else .inr (v, se, fr, w.getD 0 [], nodes, segs, ports ++ [(w.getD 1 [], qam nodes (w.getD 2 []), m.getD 0 0)], stats)) = .inr s' := h
  cases hc : decide (qam nodes (w.getD 2 []) = -1) with
  | true => rw [hc] at h'; cases h'
  | false =>
   rw [hc] at h'; injection h' with h'; subst h'
   exact ⟨by show nodes.length ≤ k + 1; omega, by show segs.length ≤ k + 1; omega, by show (ports ++ [_]).length ≤ k + 1; rw [List.length_append, List.length_singleton]; omega, by show stats.length ≤ k + 1; omega, b5, fun hh => no3 (by decide) (by decide) hh⟩
 | 6, _, _ =>
  have h' : (bif decide (qam nodes (w.getD 2 []) = -1) then (.inl 8 : Int ⊕ RS) else .inr (v, se, fr, w.getD 0 [], nodes, segs, ports, stats ++ [(w.getD 1 [], qam nodes (w.getD 2 []), m.getD 0 0, m.getD 1 0, m.getD 2 0)])) = .inr s' := h
  cases hc : decide (qam nodes (w.getD 2 []) = -1) with
  | true => rw [hc] at h'; cases h'
  | false =>
   rw [hc] at h'; injection h' with h'; subst h'
   exact ⟨by show nodes.length ≤ k + 1; omega, by show segs.length ≤ k + 1; omega, by show ports.length ≤ k + 1; omega, by show (stats ++ [_]).length ≤ k + 1; rw [List.length_append, List.length_singleton]; omega, b5, fun hh => no3 (by decide) (by decide) hh⟩
 | n + 7, _, h => omega
theorem qqC {w : List Str} {s s' : RS} {k : Nat} (hb : Bdk k s) (h : qb3 w s = .inr s') : Bdk (k + 1) s' := by
 unfold qb3 at h
 have hk6 := qjG (w.getD 0 [])
 generalize hx : qbw (w.getD 0 []) = x at h hk6
 cases hx0 : Nat.beq x 0 with
 | true => rw [hx0] at h; cases h
 | false =>
  have hxp : 1 ≤ x := by
   rcases Nat.eq_zero_or_pos x with h | h
   ·subst h; cases hx0
   ·exact h
  rw [hx0, cond_false] at h
  cases h1 : decide (w.length = wdOf x + 1) with
  | false => rw [h1] at h; cases h
  | true =>
   rw [h1, Bool.not_true, cond_false] at h
   cases h2 : (w.drop (1 + nmOf x)).all okN with
   | false => rw [h2] at h; cases h
   | true =>
    rw [h2, Bool.not_true, cond_false] at h
    cases h3 : ordB (frOf x) s.2.2.1 (w.getD 0 []) s.2.2.2.1 with
    | true => rw [h3] at h; cases h
    | false =>
     rw [h3, cond_false] at h
     exact qsJ hxp hk6 hx hb h3 h
theorem qru {w : List Str} {s : RS} {c : Int} (h : qb3 w s = .inl c) : c ≠ 0 := by
 unfold qb3 at h
 have hk6 := qjG (w.getD 0 [])
 generalize hx : qbw (w.getD 0 []) = x at h hk6
 cases hx0 : Nat.beq x 0 with
 | true => rw [hx0] at h; injection h with h; subst h; decide
 | false =>
  have hxp : 1 ≤ x := by
   rcases Nat.eq_zero_or_pos x with h | h
   ·subst h; cases hx0
   ·exact h
  rw [hx0, cond_false] at h
  cases h1 : decide (w.length = wdOf x + 1) with
  | false => rw [h1] at h; injection h with h; subst h; decide
  | true =>
   rw [h1, Bool.not_true, cond_false] at h
   cases h2 : (w.drop (1 + nmOf x)).all okN with
   | false => rw [h2] at h; injection h with h; subst h; decide
   | true =>
    rw [h2, Bool.not_true, cond_false] at h
    cases h3 : ordB (frOf x) s.2.2.1 (w.getD 0 []) s.2.2.2.1 with
    | true => rw [h3] at h; injection h with h; subst h; decide
    | false =>
     rw [h3, cond_false] at h
     obtain ⟨v, se, r, la, nodes, segs, ports, stats⟩ := s
     have key : ∀ {b : Bool} {z : RS}, (bif b then (.inl 8 : Int ⊕ RS) else .inr z) = .inl c → c ≠ 0 := by
      intro b z h
      cases b with
      | true => injection h with h; subst h; decide
      | false => cases h
     match x, hxp, hk6 with
     | 1, _, _ => cases h
     | 2, _, _ => cases h
     | 3, _, _ => exact key h
     | 4, _, _ => cases h
     | 5, _, _ => exact key h
     | 6, _, _ => exact key h
     | n + 7, _, h => omega
/-! ### The lines of a text -/
def loopP : Nat → RS → List (List Str) → RS ⊕ (Int × Int)
 | _, s, [] => .inl s
 | i, s, w :: r => bif w.isEmpty then loopP (i + 1) s r else match qb3 w s with
  | .inl e => .inr (((i + 1 : Nat) : Int), e)
  | .inr s' => loopP (i + 1) s' r
def N0 : Net := ([], [], [], [], 0, 0)
def S0 : RS := (0, 0, 0, [], [], [], [], [])
def netS (s : RS) : Net := (s.2.2.2.2.1, s.2.2.2.2.2.1, s.2.2.2.2.2.2.1, s.2.2.2.2.2.2.2, s.1, s.2.1)
def endN : RS ⊕ (Int × Int) → Net × Int × Int
 | .inl s => bif decide (s.2.2.1 = 0) then (N0, 0, 3) else bif decide (qcF (netS s) = 0) then (netS s, 0, 0) else (N0, 0, qcF (netS s))
 | .inr p => (N0, p.1, p.2)
def qaW (t : Str) : Net × Int × Int := bif decide ((qax t).2 = 0) then endN (loopP 0 S0 (qax t).1) else (N0, 0, (qax t).2)
theorem qn4 (s : Str) : (qax s).2 = 0 → (qax s).1.length ≤ 400 ∧ ∀ w ∈ (qax s).1, w.length ≤ 16 ∧ ∀ x ∈ w, x.length ≤ 16385 := by
 unfold qax
 cases hb : (Nat.blt 16384 s.length || Nat.blt 400 (lns s).length) with
 | true => intro h; exact absurd h (by show ¬ (4 : Int) = 0; decide)
 | false =>
  rw [Bool.or_eq_false_iff] at hb
  have h4 : ¬ 400 < (lns s).length := fun h => by rw [show Nat.blt 400 (lns s).length = true by rw [Nat.blt_eq]; exact h] at hb; cases hb.2
  have h5 : ¬ 16384 < s.length := fun h => by rw [show Nat.blt 16384 s.length = true by rw [Nat.blt_eq]; exact h] at hb; cases hb.1
  rw [cond_false]
  cases hm : qb2 (lns s) with
  | none => intro h; exact absurd h (by show ¬ (3 : Int) = 0; decide)
  | some c =>
   intro _
   obtain ⟨i1, i2, i3⟩ := ql2 hm
   have ht := qqp s
   exact ⟨by show c.length ≤ 400; omega, fun w hw => ⟨(qkf (i3 w hw).1).2.2, fun x hx => by have := (i3 w hw).2 x hx; omega⟩⟩
abbrev PX := Int × List Str × List Seg × List Port × List Stat × Int × Int × RS
abbrev PE := (List Str × List Seg × List Port × List Stat × Int × Int × RS) ⊕ (Int × Int × List Str × List Seg × List Port × List Stat × Int × Int)
noncomputable def stP (r : List (List Str) × Int) (x : PX) : Option (PX ⊕ PE) := qbV r x.1 x.2.1 x.2.2.1 x.2.2.2.1 x.2.2.2.2.1 x.2.2.2.2.2.1 x.2.2.2.2.2.2.1 x.2.2.2.2.2.2.2.1 x.2.2.2.2.2.2.2.2.1 x.2.2.2.2.2.2.2.2.2.1 x.2.2.2.2.2.2.2.2.2.2.1 x.2.2.2.2.2.2.2.2.2.2.2.1 x.2.2.2.2.2.2.2.2.2.2.2.2.1 x.2.2.2.2.2.2.2.2.2.2.2.2.2.1 x.2.2.2.2.2.2.2.2.2.2.2.2.2.2
def exP : RS ⊕ (Int × Int) → PE
 | .inl s => .inl ([], [], [], [], 0, 0, s)
 | .inr p => .inr (p.1, p.2, [], [], [], [], 0, 0)
theorem qki (r : List (List Str) × Int) (hr : r.1.length ≤ 400) (hb : ∀ w ∈ r.1, w.length ≤ 16 ∧ ∀ x ∈ w, x.length ≤ 16385) : ∀ (rest pre : List (List Str)) (s : RS), r.1 = pre ++ rest → Bdk pre.length s →
  iter (stP r) ((pre.length : Int), [], [], [], [], 0, 0, s) = some (exP (loopP pre.length s rest))
 | [], pre, s, he, ho => by
  refine qdD ?_
  rw [List.append_nil] at he
  unfold stP qbV
  rw [dec_f (show ¬ (pre.length : Int) < (r.1.length : Int) by rw [he]; omega)]; rfl
 | w :: rest, pre, s, he, ho => by
  have hi : pre.length < r.1.length := by rw [he]; simp
  have hw : r.1.getD pre.length [] = w := by rw [he, qrU, if_neg (by omega), Nat.sub_self]; rfl
  have hbw := hb w (by rw [he]; simp)
  unfold loopP
  have hnext : ∀ s', Bdk (pre ++ [w]).length s' → iter (stP r) ((((pre.length + 1 : Nat) : Int)), [], [], [], [], 0, 0, s') = some (exP (loopP (pre.length + 1) s' rest)) := by
   intro s' h'
   have := qki r hr hb rest (pre ++ [w]) s' (by rw [he]; simp) h'
   rw [List.length_append, List.length_singleton] at this
   exact this
  cases hemp : w.isEmpty with
  | true =>
   have hw0 : w = [] := List.isEmpty_iff.1 hemp
   have hst : stP r ((pre.length : Int), [], [], [], [], 0, 0, s) = some (.inl (((pre.length + 1 : Nat) : Int), [], [], [], [], 0, 0, s)) := by
    unfold stP qbV
    rw [dec_t (by omega), cond_true, gd_t (inB_t hi), Int.toNat_natCast, hw, hw0]
    simp only [List.length_nil]
    rw [show decide (((0 : Nat) : Int) = 0) = true from rfl, cond_true, Option.bind_some, w1 hi (by omega)]; rfl
   rw [qee hst, cond_true]
   refine hnext s ?_
   rw [List.length_append, List.length_singleton]
   exact ⟨Nat.le_succ_of_le ho.no, Nat.le_succ_of_le ho.sg, Nat.le_succ_of_le ho.po, Nat.le_succ_of_le ho.st, fun g hg => Nat.le_succ_of_le (ho.pt g hg), ho.ls⟩
  | false =>
   have hw0 : 0 < w.length := by
    cases w with
    | nil => cases hemp
    | cons a l => simp
   rw [cond_false]
   have hline := qsI (s := s) hw0 (by omega) (fun x hx => by have := hbw.2 x hx; omega) (ho.bd (by omega))
   have hstep : stP r ((pre.length : Int), [], [], [], [], 0, 0, s) = (Option.bind (qaJ w s.1 s.2.1 s.2.2.1 s.2.2.2.1 s.2.2.2.2.1 s.2.2.2.2.2.1 s.2.2.2.2.2.2.1 s.2.2.2.2.2.2.2) fun r10 => bif !decide (r10.1 = 0) then some (.inr (.inr (((pre.length + 1 : Nat) : Int), r10.1, [], [], [], [], 0, 0))) else some (.inl (((pre.length + 1 : Nat) : Int), [], [], [], [], 0, 0, r10.2))) := by
    unfold stP qbV
    rw [dec_t (by omega), cond_true, gd_t (inB_t hi), Int.toNat_natCast, hw, dec_f (by omega), cond_false, w1 hi (by omega)]
    generalize qaJ w s.1 s.2.1 s.2.2.1 s.2.2.2.1 s.2.2.2.2.1 s.2.2.2.2.2.1 s.2.2.2.2.2.2.1 s.2.2.2.2.2.2.2 = o
    cases o with
    | none => rfl
    | some r10 =>
     rw [Option.bind_some, Option.bind_some]
     cases decide (r10.1 = 0) <;> rfl
   cases hl : qb3 w s with
   | inl e =>
    rw [hl] at hline
    obtain ⟨s', hs'⟩ := hline
    rw [hs', Option.bind_some] at hstep
    simp only at hstep
    rw [dec_f (qru hl)] at hstep
    exact qdD hstep
   | inr s' =>
    rw [hl] at hline
    have hs' : qaJ w s.1 s.2.1 s.2.2.1 s.2.2.2.1 s.2.2.2.2.1 s.2.2.2.2.2.1 s.2.2.2.2.2.2.1 s.2.2.2.2.2.2.2 = some (0, s') := hline
    rw [hs', Option.bind_some] at hstep
    simp only at hstep
    rw [qee hstep]
    refine hnext s' ?_
    rw [List.length_append, List.length_singleton]
    exact qqC ho hl
theorem qrv {t : Str} (ht : t.length ≤ 1000000) : qbK t = some (qaW t) := by
 unfold qbK qaW
 rw [qqi t ht, Option.bind_some]
 by_cases h0 : (qax t).2 = 0
 ·rw [dec_t h0]
  obtain ⟨b1, b2⟩ := qn4 t h0
  have h := qki (qax t) b1 b2 (qax t).1 [] S0 rfl ⟨Nat.zero_le _, Nat.zero_le _, Nat.zero_le _, Nat.zero_le _, fun g hg => (by cases hg), fun hh => (by rcases hh with hh | hh <;> cases hh)⟩
  have h' : iter (stP (qax t)) (0, [], [], [], [], 0, 0, 0, 0, 0, [], [], [], [], []) = some (exP (loopP 0 S0 (qax t).1)) := h
  rw [Bool.not_true, cond_false, cond_true]
  refine (congrArg (fun o => Option.bind o _) h').trans ?_
  rw [Option.bind_some]
  cases loopP 0 S0 (qax t).1 with
  | inr p => rfl
  | inl s =>
   show (bif decide (s.2.2.1 = 0) then _ else ((qdk (netS s)).bind _)) = some (bif decide (s.2.2.1 = 0) then _ else _)
   cases decide (s.2.2.1 = 0) with
   | true => rfl
   | false =>
    rw [cond_false, cond_false, qnb, Option.bind_some]
    by_cases hc : qcF (netS s) = 0
    ·rw [hc]; rfl
    ·rw [dec_f hc]; rfl
 ·rw [dec_f h0]; rfl
end Go.Proofs.YtpgigbdefbeagaaGreatDoor
