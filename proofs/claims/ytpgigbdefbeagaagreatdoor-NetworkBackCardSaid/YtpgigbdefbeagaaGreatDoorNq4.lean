/- A valid network's rows are read as that network. No condition. -/
import Derived.Test.YtpgigbdefbeagaaGreatDoorNq2
namespace Go.Proofs.YtpgigbdefbeagaaGreatDoor
open Go Go.Sq
theorem qqD {l : List Int} (h : ∀ x ∈ l, x.natAbs < 1000000000) : qfe (l.map Lib.itoa) = l ∧ (l.map Lib.itoa).all okN = true := by
 have key : ∀ x ∈ l, qeZ (Lib.itoa x) = (x, 0) := fun x hx => qnS (by have := h x hx; omega)
 refine ⟨?_, ?_⟩
 ·unfold qfe
  rw [List.map_map]
  exact (List.map_congr_left fun x hx => by show (qeZ (Lib.itoa x)).1 = x; rw [key x hx]).trans (List.map_id l)
 ·rw [List.all_eq_true]
  intro y hy
  obtain ⟨x, hx, rfl⟩ := List.mem_map.1 hy
  unfold okN
  rw [key x hx]; rfl
theorem qgn {x : Nat} {k : Str} {names : List Str} {nums : List Int} {s : RS} (hk : qcY k = x) (h1 : 1 ≤ x) (hn : names.length = nmOf x) (hm : names.length + nums.length = wdOf x) (hb : ∀ x ∈ nums, x.natAbs < 1000000000) (ho : ordB (frOf x) s.2.2.1 k s.2.2.2.1 = false) :
  qbC ((k :: names) ++ nums.map Lib.itoa) s = takeS x ((k :: names) ++ nums.map Lib.itoa) nums (frOf x) s := by
 have e0 : ((k :: names) ++ nums.map Lib.itoa).getD 0 [] = k := rfl
 have e1 : ((k :: names) ++ nums.map Lib.itoa).length = wdOf x + 1 := by rw [List.length_append, List.length_cons, List.length_map]; omega
 have e2 : ((k :: names) ++ nums.map Lib.itoa).drop (1 + nmOf x) = nums.map Lib.itoa := by
  rw [List.drop_append_of_le_length (by simp; omega), List.drop_of_length_le (by simp; omega), List.nil_append]
 obtain ⟨n1, n2⟩ := qqD hb
 unfold qbC
 rw [e0, hk, e1, e2, n1, n2, dec_t rfl, ho]
 rw [show Nat.beq x 0 = false by rw [Bool.eq_false_iff, ne_eq, Nat.beq_eq]; omega]; rfl
theorem ord_f {fr r : Int} {k la : Str} (h0 : r = 0 ↔ fr = 1) (h1 : r ≤ fr) (h2 : k = kPt → la = kSeg ∨ la = kPt) : ordB fr r k la = false := by
 unfold ordB
 have e : (decide (r = 0) == decide (fr = 1)) = true := by rw [beq_iff_eq]; exact decide_eq_decide.2 h0
 rw [e, dec_f (show ¬ fr < r by omega)]
 by_cases hk : k = kPt
 ·rw [dec_t hk]
  rcases h2 hk with h | h
  ·rw [dec_t h]; rfl
  ·rw [dec_t h, Bool.not_true, Bool.and_false]; rfl
 ·rw [dec_f hk]; rfl
theorem qlj {l : List Str} (h : twL l = false) {i : Nat} (hi : i < l.length) : qaG l (l.getD i []) = (i : Int) := by
 have h2 : l.findIdx (fun y => decide (l.getD i [] = y)) = i := by
  have hlt : l.findIdx (fun y => decide (l.getD i [] = y)) < l.length := List.findIdx_lt_length.2 ⟨_, qa0 (d := []) hi, decide_eq_true rfl⟩
  have hle : l.findIdx (fun y => decide (l.getD i [] = y)) ≤ i := by
   refine Nat.le_of_not_lt fun hc => ?_
   have := List.not_of_lt_findIdx hc
   rw [← gD_eq (d := ([] : Str)) hi] at this
   simp at this
  rcases Nat.lt_or_ge (l.findIdx (fun y => decide (l.getD i [] = y))) i with hc | hc
  ·exfalso
   have hg := List.findIdx_getElem (w := hlt)
   rw [← gD_eq (d := ([] : Str)) hlt, decide_eq_true_eq] at hg
   unfold twL at h
   rw [List.any_eq_false] at h
   have h3 := h i (List.mem_range.2 hi)
   rw [Bool.not_eq_true, List.any_eq_false] at h3
   have h4 := h3 _ (List.mem_range.2 hc)
   rw [decide_eq_true_eq] at h4
   exact h4 hg
  ·omega
 unfold qaG
 rw [h2, if_pos hi]
theorem qff {i : Nat} {s s' : RS} {w : List Str} {r : List (List Str)} (hw : w ≠ []) (h : qbC w s = .inr s') : loopP i s (w :: r) = loopP (i + 1) s' r := by
 rw [loopP, h]
 cases w with
 | nil => exact absurd rfl hw
 | cons a l => rfl
theorem qkr {i : Nat} {s : RS} {r : List (List Str)} : loopP i s ([] :: r) = loopP (i + 1) s r := by rw [loopP]; rfl
theorem qnU (l : List Seg) (s : Seg) (p : Pt) : addPt (l ++ [s]) p = l ++ [(s.1, s.2.1, s.2.2.1, s.2.2.2.1, s.2.2.2.2.1, s.2.2.2.2.2.1, s.2.2.2.2.2.2 ++ [p])] := by
 unfold addPt
 have e : (l ++ [s]).length - 1 = l.length := by simp
 rw [e, qqW, if_neg (by omega), Nat.sub_self]
 show (l ++ [s]).set l.length _ = _
 rw [List.set_append_right _ _ (Nat.le_refl _), Nat.sub_self]; rfl
section
variable {v se : Int} {nodes : List Str} {X : List (List Str)}
theorem qjB : ∀ (ns : List Str) (i : Nat) (r : Int) (la : Str) (nodes : List Str), 1 ≤ r → r ≤ 2 →
  ∃ r' la', 1 ≤ r' ∧ r' ≤ 2 ∧ loopP i (v, se, r, la, nodes, [], [], []) (ns.map qgY ++ X) = loopP (i + ns.length) (v, se, r', la', nodes ++ ns, [], [], []) X
 | [], i, r, la, nodes, h1, h2 => ⟨r, la, h1, h2, by simp⟩
 | x :: ns, i, r, la, nodes, h1, h2 => by
  obtain ⟨r', la', a, b, c⟩ := qjB ns (i + 1) 2 kNode (nodes ++ [x]) (by decide) (by decide)
  refine ⟨r', la', a, b, ?_⟩
  have h := qgn (x := 2) (k := kNode) (names := [x]) (nums := []) (s := (v, se, r, la, nodes, [], [], [])) (by decide) (by decide) rfl rfl (fun x hx => by cases hx) (ord_f (by show r = 0 ↔ (2 : Int) = 1; omega) (by show r ≤ 2; omega) (fun e => by cases e))
  have h' : qbC (qgY x) (v, se, r, la, nodes, [], [], []) = .inr (v, se, 2, kNode, nodes ++ [x], [], [], []) := h
  rw [List.map_cons, List.cons_append, qff (by simp [qgY]) h', c, List.append_assoc]
  rw [show i + 1 + ns.length = i + (x :: ns).length by simp; omega]; rfl
theorem qne {nm : Str} {f t c re wa : Int} {segs : List Seg} : ∀ (ps : List Pt) (i : Nat) (la : Str) (qs : List Pt), (la = kSeg ∨ la = kPt) → (∀ p ∈ ps, (0 ≤ p.1 ∧ p.1 ≤ 1000000) ∧ (-500 ≤ p.2.1 ∧ p.2.1 ≤ 5000) ∧ (0 ≤ p.2.2 ∧ p.2.2 ≤ 100000000)) →
  ∃ la', loopP i (v, se, 3, la, nodes, segs ++ [(nm, f, t, c, re, wa, qs)], [], []) (ps.map ptRow ++ X) = loopP (i + ps.length) (v, se, 3, la', nodes, segs ++ [(nm, f, t, c, re, wa, qs ++ ps)], [], []) X
 | [], i, la, qs, hl, hp => ⟨la, by simp⟩
 | p :: ps, i, la, qs, hl, hp => by
  obtain ⟨la', h3⟩ := qne (nm := nm) (f := f) (t := t) (c := c) (re := re) (wa := wa) (segs := segs) ps (i + 1) kPt (qs ++ [p]) (.inr rfl) (fun p hp' => hp p (by simp [hp']))
  refine ⟨la', ?_⟩
  have hb := hp p (by simp)
  have h := qgn (x := 4) (k := kPt) (names := []) (nums := [p.1, p.2.1, p.2.2]) (s := (v, se, 3, la, nodes, segs ++ [(nm, f, t, c, re, wa, qs)], [], [])) (by decide) (by decide) rfl rfl (fun x hx => by
   simp only [List.mem_cons, List.not_mem_nil, or_false] at hx
   rcases hx with rfl | rfl | rfl <;> omega) (ord_f (by show (3 : Int) = 0 ↔ (3 : Int) = 1; omega) (by show (3 : Int) ≤ 3; omega) (fun _ => hl))
  have h' : qbC (ptRow p) (v, se, 3, la, nodes, segs ++ [(nm, f, t, c, re, wa, qs)], [], []) = .inr (v, se, 3, kPt, nodes, segs ++ [(nm, f, t, c, re, wa, qs ++ [p])], [], []) := by
   refine h.trans ?_
   show Sum.inr (v, se, (3 : Int), kPt, nodes, addPt (segs ++ [(nm, f, t, c, re, wa, qs)]) (p.1, p.2.1, p.2.2), ([] : List Port), ([] : List Stat)) = _
   rw [qnU]
  rw [List.map_cons, List.cons_append, qff (by simp [ptRow]) h', h3, List.append_assoc]
  rw [show i + 1 + ps.length = i + (p :: ps).length by simp; omega]; rfl
theorem nm_at (htw : twL nodes = false) {k : Int} (h : 0 ≤ k ∧ k < nodes.length) : qaG nodes (nodes.getD k.toNat []) = k := by
 rw [qlj htw (by omega)]; omega
theorem qlk (htw : twL nodes = false) : ∀ (ss : List Seg) (i : Nat) (r : Int) (la : Str) (segs : List Seg), 1 ≤ r → r ≤ 3 → (∀ s ∈ ss, SegV nodes.length s) →
  ∃ r' la' i', 1 ≤ r' ∧ r' ≤ 3 ∧ loopP i (v, se, r, la, nodes, segs, [], []) (ss.flatMap (qci nodes) ++ X) = loopP i' (v, se, r', la', nodes, segs ++ ss, [], []) X
 | [], i, r, la, segs, h1, h2, _ => ⟨r, la, i, h1, h2, by simp⟩
 | s :: ss, i, r, la, segs, h1, h2, hs => by
  have hv := hs s (by simp)
  have c1 := hv.cap; have c2 := hv.res; have c3 := hv.wav
  have h := qgn (x := 3) (k := kSeg) (names := [s.1, nodes.getD s.2.1.toNat [], nodes.getD s.2.2.1.toNat []]) (nums := [s.2.2.2.1, s.2.2.2.2.1, s.2.2.2.2.2.1]) (s := (v, se, r, la, nodes, segs, [], [])) (by decide) (by decide) rfl rfl (fun x hx => by
   simp only [List.mem_cons, List.not_mem_nil, or_false] at hx
   rcases hx with rfl | rfl | rfl <;> omega) (ord_f (by show r = 0 ↔ (3 : Int) = 1; omega) (by show r ≤ 3; omega) (fun e => by cases e))
  have h' : qbC (qna nodes s) (v, se, r, la, nodes, segs, [], []) = .inr (v, se, 3, kSeg, nodes, segs ++ [(s.1, s.2.1, s.2.2.1, s.2.2.2.1, s.2.2.2.2.1, s.2.2.2.2.2.1, [])], [], []) := by
   refine h.trans ?_
   show (bif decide (qaG nodes (nodes.getD s.2.1.toNat []) = -1) || decide (qaG nodes (nodes.getD s.2.2.1.toNat []) = -1) then (.inl 8 : Int ⊕ RS) else .inr (v, se, (3 : Int), kSeg, nodes, segs ++ [(s.1, qaG nodes (nodes.getD s.2.1.toNat []), qaG nodes (nodes.getD s.2.2.1.toNat []), s.2.2.2.1, s.2.2.2.2.1, s.2.2.2.2.2.1, [])], ([] : List Port), ([] : List Stat))) = _
   have f1 := hv.f; have f2 := hv.t
   rw [nm_at htw hv.f, nm_at htw hv.t, dec_f (show ¬ s.2.1 = -1 by omega), dec_f (show ¬ s.2.2.1 = -1 by omega)]; rfl
  obtain ⟨la2, hp⟩ := qne (v := v) (se := se) (nodes := nodes) (X := ss.flatMap (qci nodes) ++ X) (nm := s.1) (f := s.2.1) (t := s.2.2.1) (c := s.2.2.2.1) (re := s.2.2.2.2.1) (wa := s.2.2.2.2.2.1) (segs := segs) s.2.2.2.2.2.2 (i + 1) kSeg [] (.inl rfl) hv.pts
  obtain ⟨r', la', i', a, b, c⟩ := qlk htw ss (i + 1 + s.2.2.2.2.2.2.length) 3 la2 (segs ++ [s]) (by decide) (by decide) (fun s hs' => hs s (by simp [hs']))
  refine ⟨r', la', i', a, b, ?_⟩
  rw [List.flatMap_cons]
  show loopP i (v, se, r, la, nodes, segs, [], []) ((([qna nodes s] ++ s.2.2.2.2.2.2.map ptRow) ++ ss.flatMap (qci nodes)) ++ X) = _
  rw [List.append_assoc, List.append_assoc, List.singleton_append, qff (by simp [qna]) h', hp, List.nil_append]
  refine c.trans ?_
  rw [List.append_assoc]; rfl
theorem qjC {segs : List Seg} (htw : twL nodes = false) : ∀ (ps : List Port) (i : Nat) (r : Int) (la : Str) (ports : List Port), 1 ≤ r → r ≤ 4 → (∀ p ∈ ps, (0 ≤ p.2.1 ∧ p.2.1 < nodes.length) ∧ (0 ≤ p.2.2 ∧ p.2.2 ≤ 100000000)) →
  ∃ r' la', 1 ≤ r' ∧ r' ≤ 4 ∧ loopP i (v, se, r, la, nodes, segs, ports, []) (ps.map (qft nodes) ++ X) = loopP (i + ps.length) (v, se, r', la', nodes, segs, ports ++ ps, []) X
 | [], i, r, la, ports, h1, h2, _ => ⟨r, la, h1, h2, by simp⟩
 | p :: ps, i, r, la, ports, h1, h2, hp => by
  obtain ⟨r', la', a, b, c⟩ := qjC htw (segs := segs) ps (i + 1) 4 kPort (ports ++ [p]) (by decide) (by decide) (fun p hp' => hp p (by simp [hp']))
  refine ⟨r', la', a, b, ?_⟩
  have hb := hp p (by simp)
  have h := qgn (x := 5) (k := kPort) (names := [p.1, nodes.getD p.2.1.toNat []]) (nums := [p.2.2]) (s := (v, se, r, la, nodes, segs, ports, [])) (by decide) (by decide) rfl rfl (fun x hx => by rw [List.mem_singleton.1 hx]; omega) (ord_f (by show r = 0 ↔ (4 : Int) = 1; omega) (by show r ≤ 4; omega) (fun e => by cases e))
  have h' : qbC (qft nodes p) (v, se, r, la, nodes, segs, ports, []) = .inr (v, se, 4, kPort, nodes, segs, ports ++ [p], []) := by
   refine h.trans ?_
   show (bif decide (qaG nodes (nodes.getD p.2.1.toNat []) = -1) then (.inl 8 : Int ⊕ RS) else .inr (v, se, (4 : Int), kPort, nodes, segs, ports ++ [(p.1, qaG nodes (nodes.getD p.2.1.toNat []), p.2.2)], ([] : List Stat))) = _
   rw [nm_at htw hb.1, dec_f (show ¬ p.2.1 = -1 by omega)]; rfl
  rw [List.map_cons, List.cons_append, qff (by simp [qft]) h', c, List.append_assoc]
  rw [show i + 1 + ps.length = i + (p :: ps).length by simp; omega]; rfl
theorem qll {segs : List Seg} {ports : List Port} (htw : twL nodes = false) : ∀ (ps : List Stat) (i : Nat) (r : Int) (la : Str) (stats : List Stat), 1 ≤ r → r ≤ 5 → (∀ s ∈ ps, (0 ≤ s.2.1 ∧ s.2.1 < nodes.length) ∧ (0 ≤ s.2.2.1 ∧ s.2.2.1 ≤ 100000000) ∧ (0 ≤ s.2.2.2.1 ∧ s.2.2.2.1 ≤ 100000) ∧ (0 ≤ s.2.2.2.2 ∧ s.2.2.2.2 ≤ 100000000)) →
  ∃ r' la', 1 ≤ r' ∧ r' ≤ 5 ∧ loopP i (v, se, r, la, nodes, segs, ports, stats) (ps.map (qgF nodes) ++ X) = loopP (i + ps.length) (v, se, r', la', nodes, segs, ports, stats ++ ps) X
 | [], i, r, la, stats, h1, h2, _ => ⟨r, la, h1, h2, by simp⟩
 | p :: ps, i, r, la, stats, h1, h2, hp => by
  obtain ⟨r', la', a, b, c⟩ := qll htw (segs := segs) (ports := ports) ps (i + 1) 5 kSta (stats ++ [p]) (by decide) (by decide) (fun p hp' => hp p (by simp [hp']))
  refine ⟨r', la', a, b, ?_⟩
  have hb := hp p (by simp)
  have h := qgn (x := 6) (k := kSta) (names := [p.1, nodes.getD p.2.1.toNat []]) (nums := [p.2.2.1, p.2.2.2.1, p.2.2.2.2]) (s := (v, se, r, la, nodes, segs, ports, stats)) (by decide) (by decide) rfl rfl (fun x hx => by
   simp only [List.mem_cons, List.not_mem_nil, or_false] at hx
   rcases hx with rfl | rfl | rfl <;> omega) (ord_f (by show r = 0 ↔ (5 : Int) = 1; omega) (by show r ≤ 5; omega) (fun e => by cases e))
  have h' : qbC (qgF nodes p) (v, se, r, la, nodes, segs, ports, stats) = .inr (v, se, 5, kSta, nodes, segs, ports, stats ++ [p]) := by
   refine h.trans ?_
   show (bif decide (qaG nodes (nodes.getD p.2.1.toNat []) = -1) then (.inl 8 : Int ⊕ RS) else .inr (v, se, (5 : Int), kSta, nodes, segs, ports, stats ++ [(p.1, qaG nodes (nodes.getD p.2.1.toNat []), p.2.2.1, p.2.2.2.1, p.2.2.2.2)])) = _
   rw [nm_at htw hb.1, dec_f (show ¬ p.2.1 = -1 by omega)]; rfl
  rw [List.map_cons, List.cons_append, qff (by simp [qgF]) h', c, List.append_assoc]
  rw [show i + 1 + ps.length = i + (p :: ps).length by simp; omega]; rfl
end
theorem qpM {n : Net} (h : Val n) (i : Nat) (X : List (List Str)) : ∃ r la i', 1 ≤ r ∧ loopP i S0 (rowsN n ++ X) = loopP i' (n.2.2.2.2.1, n.2.2.2.2.2, r, la, n.1, n.2.1, n.2.2.1, n.2.2.2.1) X := by
 have htw : twL n.1 = false := by
  have := h.tw
  unfold twB nmsOf at this
  simp only [List.any_cons, List.any_nil, Bool.or_eq_false_iff] at this
  exact this.1.1
 have h2 := h.two
 have h1 := qgn (x := 1) (k := kNet) (names := []) (nums := [n.2.2.2.2.1, n.2.2.2.2.2]) (s := S0) (by decide) (by decide) rfl rfl (fun x hx => by
  simp only [List.mem_cons, List.not_mem_nil, or_false] at hx
  rcases hx with rfl | rfl <;> omega) (ord_f (by show (0 : Int) = 0 ↔ (1 : Int) = 1; simp) (by show (0 : Int) ≤ 1; decide) (fun e => by cases e))
 have h1' : qbC (qi8 n) S0 = .inr (n.2.2.2.2.1, n.2.2.2.2.2, 1, kNet, [], [], [], []) := h1
 unfold rowsN
 simp only [List.append_assoc, List.singleton_append, List.cons_append, List.nil_append]
 rw [qff (by simp [qi8]) h1']
 obtain ⟨r1, la1, a1, b1, c1⟩ := qjB (v := n.2.2.2.2.1) (se := n.2.2.2.2.2) (X := n.2.1.flatMap (qci n.1) ++ (n.2.2.1.map (qft n.1) ++ (n.2.2.2.1.map (qgF n.1) ++ X))) n.1 (i + 1) 1 kNet [] (by decide) (by decide)
 rw [c1, List.nil_append]
 obtain ⟨r2, la2, i2, a2, b2, c2⟩ := qlk (v := n.2.2.2.2.1) (se := n.2.2.2.2.2) (X := n.2.2.1.map (qft n.1) ++ (n.2.2.2.1.map (qgF n.1) ++ X)) htw n.2.1 (i + 1 + n.1.length) r1 la1 [] a1 (by omega) (fun s hs => h.seg hs)
 rw [c2, List.nil_append]
 obtain ⟨r3, la3, a3, b3, c3⟩ := qjC (v := n.2.2.2.2.1) (se := n.2.2.2.2.2) (X := n.2.2.2.1.map (qgF n.1) ++ X) (segs := n.2.1) htw n.2.2.1 i2 r2 la2 [] a2 (by omega) (fun s hs => h.port hs)
 rw [c3, List.nil_append]
 obtain ⟨r4, la4, a4, b4, c4⟩ := qll (v := n.2.2.2.2.1) (se := n.2.2.2.2.2) (X := X) (segs := n.2.1) (ports := n.2.2.1) htw n.2.2.2.1 (i2 + n.2.2.1.length) r3 la3 [] a3 (by omega) (fun s hs => h.stat hs)
 rw [c4, List.nil_append]
 exact ⟨r4, la4, _, a4, rfl⟩
end Go.Proofs.YtpgigbdefbeagaaGreatDoor
namespace Go.Proofs.YtpgigbdefbeagaaGreatDoor
open Go Go.Sq
structure Sml (a : Net) : Prop where
 no : a.1.length ≤ 1000
 sg : a.2.1.length ≤ 1000
 po : a.2.2.1.length ≤ 1000
 st : a.2.2.2.1.length ≤ 1000
 pt : ∀ g ∈ a.2.1, g.2.2.2.2.2.2.length ≤ 1000
theorem qpN {a : Net} (h : Sml a) : qed a a = some true := by
 have a1 := h.no; have a2 := h.sg; have a3 := h.po; have a4 := h.st
 have k0 : iter (fun x => qbR a a x) 0 = some (.inl ()) := qbt (step := fun x => qbR a a x) a.1.length (fun i => ((i : Nat) : Int)) (fun i hi => by
  show qbR a a ((i : Nat) : Int) = _
  unfold qbR
  rw [dec_t (by omega), cond_true, gd_t (inB_t hi), gd_t (inB_t hi), dec_t rfl, Bool.not_true, cond_false, w1 hi (by omega)]) (by
  show qbR a a ((a.1.length : Nat) : Int) = _
  unfold qbR
  rw [dec_f (by omega)]; rfl)
 have k2 : ∀ i, i < a.2.1.length → iter (fun x => qbS a a (i : Nat) x) 0 = some (.inl ()) := fun i hi => by
  have hp := h.pt _ (qa0 (d := sg0) hi)
  refine qbt (step := fun x => qbS a a (i : Nat) x) (a.2.1.getD i sg0).2.2.2.2.2.2.length (fun i => ((i : Nat) : Int)) (fun j hj => ?_) ?_
  ·show qbS a a ((i : Nat) : Int) ((j : Nat) : Int) = _
   unfold qbS
   simp only [Int.toNat_natCast]
   rw [dec_t (show (j : Int) < (((a.2.1.getD i sg0).2.2.2.2.2.2.length : Nat) : Int) by omega), cond_true, gd_t (inB_t hj), gd_t (inB_t hj)]
   simp only [decide_true, Bool.and_self, Bool.not_true, cond_false]
   rw [w1 hj (by omega)]
  ·show qbS a a ((i : Nat) : Int) (((a.2.1.getD i sg0).2.2.2.2.2.2.length : Nat) : Int) = _
   unfold qbS
   simp only [Int.toNat_natCast]
   rw [dec_f (show ¬ (((a.2.1.getD i sg0).2.2.2.2.2.2.length : Nat) : Int) < (((a.2.1.getD i sg0).2.2.2.2.2.2.length : Nat) : Int) by omega)]; rfl
 have k1 : iter (fun x => qbT a a x) 0 = some (.inl ()) := qbt (step := fun x => qbT a a x) a.2.1.length (fun i => ((i : Nat) : Int)) (fun i hi => by
  show qbT a a ((i : Nat) : Int) = _
  unfold qbT
  rw [dec_t (by omega), cond_true, gd_t (inB_t hi), gd_t (inB_t hi)]
  simp only [decide_true, Bool.not_true, cond_false, Option.bind_some]
  rw [k2 i hi, Option.bind_some]
  show some (Sum.inl (wi64 ((i : Int) + 1))) = _
  rw [w1 hi (by omega)]) (by
  show qbT a a ((a.2.1.length : Nat) : Int) = _
  unfold qbT
  rw [dec_f (by omega)]; rfl)
 have k3 : iter (fun x => qbU a a x) 0 = some (.inl ()) := qbt (step := fun x => qbU a a x) a.2.2.1.length (fun i => ((i : Nat) : Int)) (fun i hi => by
  show qbU a a ((i : Nat) : Int) = _
  unfold qbU
  rw [dec_t (by omega), cond_true, gd_t (inB_t hi), gd_t (inB_t hi)]
  simp only [decide_true, Bool.and_self, Bool.not_true, cond_false]
  rw [w1 hi (by omega)]) (by
  show qbU a a ((a.2.2.1.length : Nat) : Int) = _
  unfold qbU
  rw [dec_f (by omega)]; rfl)
 have k4 : iter (fun x => qbV a a x) 0 = some (.inl ()) := qbt (step := fun x => qbV a a x) a.2.2.2.1.length (fun i => ((i : Nat) : Int)) (fun i hi => by
  show qbV a a ((i : Nat) : Int) = _
  unfold qbV
  rw [dec_t (by omega), cond_true, gd_t (inB_t hi), gd_t (inB_t hi)]
  simp only [decide_true, Bool.and_self, Bool.not_true, cond_false]
  rw [w1 hi (by omega)]) (by
  show qbV a a ((a.2.2.2.1.length : Nat) : Int) = _
  unfold qbV
  rw [dec_f (by omega)]; rfl)
 unfold qed
 simp only [decide_true, Bool.not_true, cond_false, Option.bind_some]
 rw [k0, Option.bind_some, Sum.elim_inl, k1, Option.bind_some, Sum.elim_inl, k3, Option.bind_some, Sum.elim_inl, k4, Option.bind_some, Sum.elim_inl]
theorem Val.sml {n : Net} (h : Val n) : Sml n := by
 have := h.small
 exact ⟨by have := this.no; omega, by have := this.sg; omega, by have := this.po; omega, by have := this.st; omega, fun g hg => by have := (this.pt g hg).2; omega⟩
theorem fidx {A : Type} (l : List A) (d : A) (f : A → Str) (hnd : (l.map f).Nodup) {i : Nat} (hi : i < l.length) : l.findIdx (fun x => decide (f x = f (l.getD i d))) = i := by
 have hlt : l.findIdx (fun x => decide (f x = f (l.getD i d))) < l.length := List.findIdx_lt_length.2 ⟨_, qa0 (d := d) hi, decide_eq_true rfl⟩
 have hg := List.findIdx_getElem (w := hlt)
 rw [decide_eq_true_eq] at hg
 have hg2 := hg.trans (congrArg f (gD_eq (d := d) hi))
 have e : (l.map f)[l.findIdx (fun x => decide (f x = f (l.getD i d)))]'(by simpa using hlt) = (l.map f)[i]'(by simpa using hi) := by
  rw [List.getElem_map, List.getElem_map]
  exact hg2
 exact (List.getElem_inj hnd).1 e
theorem qsj {n : Net} (hnd : (n.2.1.map (·.1)).Nodup) (hl : n.2.1.length ≤ 1000) {i : Nat} (hi : i < n.2.1.length) : qce n (n.2.1.getD i sg0).1 = some (i : Int) := by
 unfold qce
 rw [qcf _ (fun s => decide (s.1 = (n.2.1.getD i sg0).1)) _ (fun x _ => rfl) (by omega), Option.bind_some, fidx n.2.1 sg0 (·.1) hnd hi, if_pos hi]
theorem qrO {n : Net} (hnd : (n.2.2.1.map (·.1)).Nodup) (hl : n.2.2.1.length ≤ 1000) {i : Nat} (hi : i < n.2.2.1.length) : qdI n (n.2.2.1.getD i po0).1 = some (i : Int) := by
 unfold qdI
 rw [qdJ _ (fun s => decide (s.1 = (n.2.2.1.getD i po0).1)) _ (fun x _ => rfl) (by omega), Option.bind_some, fidx n.2.2.1 po0 (·.1) hnd hi, if_pos hi]
theorem qrP {n : Net} (h : twL n.1 = false) (hl : n.1.length ≤ 1000) {i : Nat} (hi : i < n.1.length) : qcX n (n.1.getD i []) = some (i : Int) := by
 unfold qcX
 rw [sidx _ _ (by omega), Option.bind_some]
 exact congrArg some (qlj h hi)
theorem qpO {a : List (List Str)} (h : ∀ w ∈ a, qa8 w = true) (h1 : a.length ≤ 300) (h2 : (txt a).length ≤ 16000) : qaW (([10, 35, 32, 97, 10] ++ txt a) ++ [35, 32, 98, 10]) = ([] :: [] :: (a ++ [[]]), 0) := by
 have e : (([10, 35, 32, 97, 10] ++ txt a) ++ [35, 32, 98, 10] : Str) = [] ++ 10 :: ([35, 32, 97] ++ 10 :: (txt a ++ [35, 32, 98, 10])) := by simp
 have l1 : lns (([10, 35, 32, 97, 10] ++ txt a) ++ [35, 32, 98, 10]) = [] :: [35, 32, 97] :: (a.map joinS ++ [[35, 32, 98]]) := by
  rw [e, qi4 _ (by simp), qi4 _ (by decide), qpB _ h]
  congr 3
 refine qpF (by simp; omega) (by rw [l1]; simp; omega) ?_
 rw [l1, qeD, qeD, qjy _ h]
 rfl
theorem qpP {n : Net} (h0 : qfc n = 0) (hc : (rowsN n).length ≤ 170) : qbQ (([10, 35, 32, 97, 10] ++ txt (rowsN n)) ++ [35, 32, 98, 10]) = some (n, 0, 0) := by
 have hv := qlh h0
 have ht := (qjz h0 hc).2
 rw [qqC (by simp; omega)]
 unfold qi9
 rw [qpO (fun w hw => (hv.rows w hw).pr) (by omega) (by omega)]
 show some (endN (loopP 0 S0 ([] :: [] :: (rowsN n ++ [[]])))) = _
 rw [qkr, qkr]
 obtain ⟨r, la, i', h1, h2⟩ := qpM hv (0 + 1 + 1) [[]]
 rw [h2, qkr, loopP]
 show some (bif decide (r = 0) then _ else _) = _
 rw [dec_f (show ¬ r = 0 by omega), cond_false]
 show some (bif decide (qfc n = 0) then (n, (0 : Int), (0 : Int)) else _) = _
 rw [dec_t h0]; rfl
theorem qpQ {l : List Int} (hl : ∀ x ∈ l, i64P x) : qdu l = some true := by
 refine Ok.true ?_
 unfold qdu
 obtain ⟨s, h0, hs⟩ := qr5 hl
 refine Ok.eq h0 ?_
 refine Ok.bind (qr8 hs) ?_
 rintro ⟨n, s', p'⟩ ⟨_, _, k, hn⟩
 replace hn : NetP k n := hn
 have b1 := hn.k2; have b2 := hn.k6
 have b3 := hn.ports.len; have b5 := hn.stats.len; have b6 := hn.segs.len
 have hc := chk0 hn
 have hv := qlh hc
 have e1 : n.1.length = k := by rw [hn.nodes, qgV]
 have la : (rowsN n).length ≤ 100 := by
  have := qrJ hn
  show ((hdN n ++ n.2.2.1.map (qft n.1)) ++ n.2.2.2.1.map (qgF n.1)).length ≤ 100
  simp only [List.length_append, List.length_map]; omega
 have f1 := qjz hc (by omega)
 have f2 := f1.2
 simp only
 refine Ok.eq f1.1 ?_
 refine Ok.gd (Nat.ble_eq_true_of_le (by simp only [List.length_cons, List.length_nil]; omega)) ?_
 refine Ok.gd (Nat.ble_eq_true_of_le (by simp only [List.length_append, List.length_cons, List.length_nil]; omega)) ?_
 refine Ok.eq (qpP hc (by omega)) ?_
 have hmid : ((qa3 (n.1, (n.2.1, (n.2.2.1, (n.2.2.2.1, (n.2.2.2.2.1, n.2.2.2.2.2)))))).bind fun r5 => bif !decide (r5 = 0) then some true else (bif !decide ((0 : Int) = 0) then some true else (bif !decide ((0 : Int) = 0) then some true else (bif !decide ((0 : Int) = 0) then some true else ((qed (n.1, (n.2.1, (n.2.2.1, (n.2.2.2.1, (n.2.2.2.2.1, n.2.2.2.2.2))))) (n.1, (n.2.1, (n.2.2.1, (n.2.2.2.1, (n.2.2.2.2.1, n.2.2.2.2.2)))))).bind fun r6 => some (!r6)))))) = some false := by
  have e0 : qa3 (n.1, (n.2.1, (n.2.2.1, (n.2.2.2.1, (n.2.2.2.2.1, n.2.2.2.2.2))))) = some 0 := (qgW _).trans (congrArg some hc)
  have e2 : qed (n.1, (n.2.1, (n.2.2.1, (n.2.2.2.1, (n.2.2.2.2.1, n.2.2.2.2.2))))) (n.1, (n.2.1, (n.2.2.1, (n.2.2.2.1, (n.2.2.2.2.1, n.2.2.2.2.2))))) = some true := qpN hv.sml
  rw [e0, Option.bind_some, e2]; rfl
 refine Ok.eq hmid ?_
 rw [cond_false]
 have htw : twL n.1 = false := qf9 (by rw [hn.nodes]; exact qeB 110 (by omega))
 have k0 : iter (fun x => qaC (n, s', p') x) 0 = some (.inl ()) := qbt (step := fun x => qaC (n, s', p') x) n.1.length (fun i => ((i : Nat) : Int)) (fun i hi => by
  show qaC (n, s', p') ((i : Nat) : Int) = _
  unfold qaC
  have := qrP (n := n) htw (by omega) hi
  have h' : qcX (n.1, (n.2.1, (n.2.2.1, (n.2.2.2.1, (n.2.2.2.2.1, n.2.2.2.2.2))))) (n.1.getD i []) = some (i : Int) := this
  simp only [Int.toNat_natCast]
  rw [dec_t (by omega), cond_true, gd_t (inB_t hi), h', Option.bind_some, dec_t rfl, Bool.not_true, cond_false, w1 hi (by omega)]) (by
  show qaC (n, s', p') ((n.1.length : Nat) : Int) = _
  unfold qaC
  simp only
  rw [dec_f (by omega)]; rfl)
 have k1 : iter (fun x => qaD (n, s', p') x) 0 = some (.inl ()) := qbt (step := fun x => qaD (n, s', p') x) n.2.1.length (fun i => ((i : Nat) : Int)) (fun i hi => by
  show qaD (n, s', p') ((i : Nat) : Int) = _
  unfold qaD
  have h' : qce (n.1, (n.2.1, (n.2.2.1, (n.2.2.2.1, (n.2.2.2.2.1, n.2.2.2.2.2))))) (n.2.1.getD i ([], (0, (0, (0, (0, (0, []))))))).1 = some (i : Int) := qsj (n := n) (by rw [hn.segs.nam]; exact qeB 103 (by omega)) (by omega) hi
  simp only [Int.toNat_natCast]
  rw [dec_t (by omega), cond_true, gd_t (inB_t hi), h', Option.bind_some, dec_t rfl, Bool.not_true, cond_false, w1 hi (by omega)]) (by
  show qaD (n, s', p') ((n.2.1.length : Nat) : Int) = _
  unfold qaD
  simp only
  rw [dec_f (by omega)]; rfl)
 have k2 : iter (fun x => qaE (n, s', p') x) 0 = some (.inl ()) := qbt (step := fun x => qaE (n, s', p') x) n.2.2.1.length (fun i => ((i : Nat) : Int)) (fun i hi => by
  show qaE (n, s', p') ((i : Nat) : Int) = _
  unfold qaE
  have h' : qdI (n.1, (n.2.1, (n.2.2.1, (n.2.2.2.1, (n.2.2.2.2.1, n.2.2.2.2.2))))) (n.2.2.1.getD i ([], (0, 0))).1 = some (i : Int) := qrO (n := n) (by rw [hn.ports.nam]; exact qeB 113 (by omega)) (by omega) hi
  simp only [Int.toNat_natCast]
  rw [dec_t (by omega), cond_true, gd_t (inB_t hi), h', Option.bind_some, dec_t rfl, Bool.not_true, cond_false, w1 hi (by omega)]) (by
  show qaE (n, s', p') ((n.2.2.1.length : Nat) : Int) = _
  unfold qaE
  simp only
  rw [dec_f (by omega)]; rfl)
 refine Ok.eq k0 ?_
 rw [Sum.elim_inl]
 refine Ok.eq k1 ?_
 rw [Sum.elim_inl]
 refine Ok.eq k2 ?_
 rw [Sum.elim_inl]
 refine Ok.eq qnP ?_
 exact Ok.ret rfl
end Go.Proofs.YtpgigbdefbeagaaGreatDoor
