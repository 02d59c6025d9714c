/- Networks as they are made; the law AuditFills. No condition. -/
import Derived.Test.YtnhaphgnpgaocaaAu4
namespace Go.Proofs.Ytnhaphgnpgaocaa
open Go Go.Sq

theorem smod_eq {x n : Int} (hx : i64P x) (h1 : 1 ≤ n) (h2 : n ≤ 4611686018427387904) : second_Mod x n = some (x % n) := by
  unfold second_Mod; rw [mod_eq hx h1 h2]; rfl
theorem name_eq {first : List UInt8} (n : Int) (h : first.length ≤ 1000) : ∃ x, keep_name first n = some x := by
  unfold keep_name
  rw [gd_t (by
    refine Nat.ble_eq_true_of_le ?_
    have : (toBytes [wu8 (wi64 (97 + (Int.tmod n 26)))]).length = 1 := rfl
    omega)]
  exact ⟨_, rfl⟩
abbrev Sgm := List UInt8 × Int × Int × Int × Int × Int × List (Int × Int × Int)
theorem segment_eq {k vfrom to : Int} {s : List Int} {p : Int} (h : SrcOk s p) : Ok (keep_Src_Segment k vfrom to s p) fun r => ∃ (g : Sgm) (p' : Int), r = (g, s, p') ∧ SrcOk s p' ∧ 1 ≤ g.2.2.2.1 ∧ g.2.2.2.1 ≤ 1000 := by
  unfold keep_Src_Segment
  obtain ⟨a, p1, a1, a2, a3, a4⟩ := n_eq (n := 4) h (by omega) (by omega)
  refine Ok.eq a1 (Ok.bind (Q := fun _ => True) (Ok.bif (fun _ => Ok.ret trivial) (fun _ => Ok.ret trivial)) fun s3 _ => ?_)
  obtain ⟨nm, hnm⟩ := name_eq (first := [103]) k (by decide)
  refine Ok.eq hnm ?_
  obtain ⟨c, p2, b1, b2, b3⟩ := pick_eq (l := [1, 2, 7, 20, 60, 200, 1000]) a4 (by simp) (by simp)
  refine Ok.eq b1 ?_
  obtain ⟨d, p3, c1, c2, c3⟩ := pick_eq (l := [0, 1, 5, 1000]) b3 (by simp) (by simp)
  refine Ok.eq c1 ?_
  obtain ⟨e, p4, d1, d2, d3⟩ := pick_eq (l := [0, 50, 1000, 100000]) c3 (by simp) (by simp)
  refine Ok.eq d1 ?_
  obtain ⟨f, p5, e1, e2, e3⟩ := pick_eq (l := [1000000, 6000000, 100000000]) d3 (by simp) (by simp)
  refine Ok.eq e1 ?_
  obtain ⟨g, p6, f1, f2, f3, f4⟩ := range_eq (lo := -5) (hi := 30) e3 (by omega) (by omega) (by omega)
  refine Ok.eq f1 ?_
  have hc : 1 ≤ c ∧ c ≤ 1000 := by
    simp only [List.mem_cons, List.not_mem_nil, or_false] at b2
    omega
  refine Ok.bind (Q := fun z => ∃ (p' : Int) (x : List (Int × Int × Int)), z = (s, p', x) ∧ SrcOk s p' ∧ x.length ≤ 8) ?_ ?_
  · refine Ok.loop (fun x => ∃ (v p' : Int) (l : List (Int × Int × Int)), x = (v, s, p', l) ∧ SrcOk s p' ∧ l.length ≤ 8) (fun x => 10 - x.2.2.2.length) ⟨0, p6, _, rfl, f4, by simp⟩ ?_
    rintro _ ⟨v, p', l, rfl, k1, k2⟩
    unfold keep_Src_Segment_L0
    refine Ok.bind (Q := fun z => ∃ (t : Bool) (q : Int), z = (t, s, q, l) ∧ SrcOk s q ∧ (t = true → l.length < 7)) ?_ ?_
    · refine Ok.bif (fun hl => ?_) (fun _ => Ok.ret ⟨false, p', rfl, k1, fun h => by cases h⟩)
      obtain ⟨a, q1, a1, a2, a3, a4⟩ := n_eq (n := 3) k1 (by omega) (by omega)
      exact Ok.eq a1 (Ok.ret ⟨_, q1, rfl, a4, fun _ => by have := of_decide_eq_true hl; simp only at this; omega⟩)
    · rintro _ ⟨t, q, rfl, g1, g2⟩
      refine Ok.bif (fun ht => ?_) (fun _ => Ok.ret ⟨q, l, rfl, g1, k2⟩)
      have hl := g2 ht
      obtain ⟨a, q1, a1, a2, a3, a4⟩ := range_eq (lo := 1) (hi := 40) g1 (by omega) (by omega) (by omega)
      refine Ok.eq a1 (Ok.bif (fun _ => Ok.ret ⟨q1, l, rfl, a4, k2⟩) fun _ => ?_)
      obtain ⟨b, q2, b1, b2, b3, b4⟩ := range_eq (lo := -5) (hi := 60) a4 (by omega) (by omega) (by omega)
      refine Ok.eq b1 ?_
      obtain ⟨c, q3, c1, c2, c3⟩ := pick_eq (l := [1, 1, 10]) b4 (by simp) (by simp)
      refine Ok.eq c1 ?_
      obtain ⟨d, q4, d1, d2, d3, d4⟩ := n_eq (n := 3) c3 (by omega) (by omega)
      refine Ok.eq d1 (Ok.gd (fits_t (by simp only; omega)) (Ok.ret ⟨⟨_, q4, _, rfl, d4, by simp; omega⟩, by simp only [List.length_append, List.length_singleton]; omega⟩))
  · rintro _ ⟨p', x, rfl, g1, g2⟩
    obtain ⟨h, p7, h1, h2, h3, h4⟩ := range_eq (lo := -5) (hi := 30) g1 (by omega) (by omega) (by omega)
    exact Ok.eq h1 (Ok.gd (fits_t (by simp only; omega)) (Ok.ret ⟨_, p7, rfl, h4, hc.1, hc.2⟩))

structure Segs (l : List Sgm) (n : Nat) : Prop where
  len : l.length ≤ n
  cap : ∀ g ∈ l, 1 ≤ g.2.2.2.1 ∧ g.2.2.2.1 ≤ 1000
theorem Segs.add {l : List Sgm} {n : Nat} (h : Segs l n) {g : Sgm} (h1 : 1 ≤ g.2.2.2.1 ∧ g.2.2.2.1 ≤ 1000) : Segs (l ++ [g]) (n + 1) :=
  ⟨by have := h.len; simp; omega, fun x hx => (List.mem_append.1 hx).elim (h.cap x) fun hx => by rw [List.mem_singleton.1 hx]; exact h1⟩
abbrev Net := List (List UInt8) × List Sgm × List (List UInt8 × Int × Int) × List (List UInt8 × Int × Int × Int × Int) × Int × Int
theorem network_eq {s : List Int} {p : Int} (h : SrcOk s p) : Ok (keep_Src_Network s p) fun r => ∃ (n : Net) (p' : Int), r = (n, s, p') ∧ SrcOk s p' ∧ 1 ≤ n.2.1.length ∧ Segs n.2.1 8 := by
  unfold keep_Src_Network
  obtain ⟨a, p1, a1, a2, a3⟩ := pick_eq (l := [(-100000), 0, 50000]) h (by simp) (by simp)
  refine Ok.eq a1 ?_
  obtain ⟨b, p2, b1, b2, b3⟩ := pick_eq (l := [0, 1, 5, 100]) a3 (by simp) (by simp)
  refine Ok.eq b1 ?_
  obtain ⟨c, p3, c1, c2, c3, c4⟩ := range_eq (lo := 2) (hi := 6) b3 (by omega) (by omega) (by omega)
  refine Ok.eq c1 ?_
  refine Ok.bind (Q := fun z : List (List UInt8) => (z.length : Int) = c) ?_ fun nd hnd => ?_
  · refine Ok.loop (fun x => 0 ≤ x.1 ∧ (x.2.length : Int) + x.1 = c) (fun x => x.1.toNat) ⟨by simp only; omega, by simp⟩ ?_
    rintro ⟨i, l⟩ ⟨k1, k2⟩
    simp only at k1 k2
    unfold keep_Src_Network_L0
    refine Ok.bif (fun hi => ?_) (fun hi => Ok.ret (by have := of_decide_eq_false hi; simp only; omega))
    have hi := of_decide_eq_true hi
    obtain ⟨nm, hnm⟩ := name_eq (first := [110]) (l.length : Int) (by decide)
    refine Ok.eq hnm (Ok.gd (fits_t (by simp only; omega)) (Ok.ret ?_))
    rw [wi (by simp only; omega)]
    exact ⟨⟨by simp only; omega, by simp; omega⟩, by simp only; omega⟩
  have hw : wi64 ((nd.length : Int) - 1) = c - 1 := by rw [hnd, wi (by omega)]
  refine Ok.bind (Q := fun z => ∃ (p' : Int) (l : List Sgm), z = (s, p', nd, l) ∧ SrcOk s p' ∧ (l.length : Int) = c - 1 ∧ Segs l 5) ?_ ?_
  · refine Ok.loop (fun x => ∃ (i p' : Int) (l : List Sgm), x = (i, s, p', nd, l) ∧ SrcOk s p' ∧ (l.length : Int) = i ∧ i ≤ c - 1 ∧ Segs l l.length) (fun x => (c - x.1).toNat) ⟨0, p3, [], rfl, c4, rfl, by omega, ⟨by simp, by simp⟩⟩ ?_
    rintro _ ⟨i, p', l, rfl, k1, k2, k3, k4⟩
    unfold keep_Src_Network_L1
    rw [hw]
    refine Ok.bif (fun hi => ?_) (fun hi => Ok.ret ⟨p', l, rfl, k1, by have := of_decide_eq_false hi; omega, ⟨by omega, k4.cap⟩⟩)
    have hi := of_decide_eq_true hi
    refine Ok.bind (segment_eq k1) ?_
    rintro _ ⟨g, q, rfl, g1, g2, g3⟩
    refine Ok.gd (fits_t (by simp only; omega)) (Ok.ret ?_)
    rw [wi (by omega)]
    exact ⟨⟨_, q, _, rfl, g1, by simp; omega, by omega, by have := k4.add (g := g) ⟨g2, g3⟩; simpa using this⟩, by simp only; omega⟩
  rintro _ ⟨p4, l1, rfl, d1, d2, d3⟩
  obtain ⟨e, p5, e1, e2, e3, e4⟩ := n_eq (n := 4) d1 (by omega) (by omega)
  refine Ok.eq e1 ?_
  refine Ok.bind (Q := fun z => ∃ (p' : Int) (l : List Sgm), z = (s, p', nd, l) ∧ SrcOk s p' ∧ 1 ≤ l.length ∧ Segs l 8) ?_ ?_
  · refine Ok.loop (fun x => ∃ (i p' : Int) (l : List Sgm) (m : Nat), x = (i, s, p', nd, l) ∧ SrcOk s p' ∧ 1 ≤ l.length ∧ 0 ≤ i ∧ (m : Int) + i ≤ 8 ∧ Segs l m) (fun x => x.1.toNat) ⟨e, p5, l1, 5, rfl, e4, by omega, e2, by omega, d3⟩ ?_
    rintro _ ⟨i, p', l, m, rfl, k1, k2, k3, k4, k5⟩
    unfold keep_Src_Network_L2
    rw [hw]
    refine Ok.bif (fun hi => ?_) (fun _ => Ok.ret ⟨p', l, rfl, k1, k2, ⟨by have := k5.len; omega, k5.cap⟩⟩)
    have hi := of_decide_eq_true hi
    obtain ⟨a, q1, a1, a2, a3, a4⟩ := n_eq (n := c - 1) k1 (by omega) (by omega)
    refine Ok.eq a1 ?_
    rw [show wi64 ((a, s, q1).1 + 1) = a + 1 from wi (by simp only; omega)]
    obtain ⟨b, q2, b1, b2, b3, b4⟩ := range_eq (lo := a + 1) (hi := c - 1) a4 (by omega) (by omega) (by omega)
    refine Ok.eq b1 (Ok.bind (segment_eq b4) ?_)
    rintro _ ⟨g, q, rfl, g1, g2, g3⟩
    have hl := k5.len
    refine Ok.gd (fits_t (by simp only; omega)) (Ok.ret ?_)
    rw [wi (by omega)]
    exact ⟨⟨_, q, _, m + 1, rfl, g1, by simp, by omega, by omega, k5.add ⟨g2, g3⟩⟩, by simp only; omega⟩
  rintro _ ⟨p6, l2, rfl, f1, f2, f3⟩
  refine Ok.bind (Q := fun z => ∃ (p' : Int) (po : List (List UInt8 × Int × Int)) (st : List (List UInt8 × Int × Int × Int × Int)), z = (s, p', nd, l2, po, st) ∧ SrcOk s p') ?_ ?_
  · refine Ok.loop (fun x => ∃ (i p' : Int) (po : List (List UInt8 × Int × Int)) (st : List (List UInt8 × Int × Int × Int × Int)), x = (i, s, p', nd, l2, po, st) ∧ SrcOk s p' ∧ (po.length : Int) ≤ i ∧ (st.length : Int) ≤ i ∧ i ≤ c) (fun x => (c - x.1).toNat) ⟨0, p6, [], [], rfl, f1, by simp, by simp, by omega⟩ ?_
    rintro _ ⟨i, p', po, st, rfl, k1, k2, k3, k4⟩
    unfold keep_Src_Network_L3
    rw [hw]
    refine Ok.bif (fun hi => ?_) (fun _ => Ok.ret ⟨p', po, st, rfl, k1⟩)
    have hi := of_decide_eq_true hi
    refine Ok.bind (Q := fun z => ∃ (t : Bool) (q : Int), z = (t, s, q, nd, l2, po, st) ∧ SrcOk s q) ?_ ?_
    · refine Ok.bif (fun _ => Ok.ret ⟨true, p', rfl, k1⟩) fun _ => Ok.bif (fun _ => Ok.ret ⟨true, p', rfl, k1⟩) fun _ => ?_
      obtain ⟨a, q1, a1, a2, a3, a4⟩ := n_eq (n := 2) k1 (by omega) (by omega)
      exact Ok.eq a1 (Ok.ret ⟨_, q1, rfl, a4⟩)
    rintro _ ⟨t, q, rfl, g1⟩
    refine Ok.bind (Q := fun z => ∃ (po' : List (List UInt8 × Int × Int)) (q' : Int), z = (s, q', nd, l2, po', st) ∧ SrcOk s q' ∧ (po'.length : Int) ≤ i + 1) ?_ ?_
    · refine Ok.bif (fun _ => ?_) (fun _ => Ok.ret ⟨po, q, rfl, g1, by omega⟩)
      obtain ⟨nm, hnm⟩ := name_eq (first := [113]) (po.length : Int) (by decide)
      refine Ok.eq hnm ?_
      obtain ⟨a, q1, a1, a2, a3⟩ := pick_eq (l := [300000, 1000000, 0, 5000000]) g1 (by simp) (by simp)
      refine Ok.eq a1 (Ok.gd (fits_t (by simp only; omega)) (Ok.ret ⟨_, q1, rfl, a3, by simp; omega⟩))
    rintro _ ⟨po', q', rfl, h1, h2⟩
    refine Ok.bind (Q := fun z => ∃ (t : Bool) (q : Int), z = (t, s, q, nd, l2, po', st) ∧ SrcOk s q) ?_ ?_
    · refine Ok.bif (fun _ => ?_) (fun _ => Ok.ret ⟨false, q', rfl, h1⟩)
      obtain ⟨a, q1, a1, a2, a3, a4⟩ := n_eq (n := 3) h1 (by omega) (by omega)
      exact Ok.eq a1 (Ok.ret ⟨_, q1, rfl, a4⟩)
    rintro _ ⟨t, q2, rfl, j1⟩
    refine Ok.bind (Q := fun z => ∃ (st' : List (List UInt8 × Int × Int × Int × Int)) (q' : Int), z = (s, q', nd, l2, po', st') ∧ SrcOk s q' ∧ (st'.length : Int) ≤ i + 1) ?_ ?_
    · refine Ok.bif (fun _ => ?_) (fun _ => Ok.ret ⟨st, q2, rfl, j1, by omega⟩)
      obtain ⟨nm, hnm⟩ := name_eq (first := [115]) (st.length : Int) (by decide)
      refine Ok.eq hnm ?_
      obtain ⟨a, q1, a1, a2, a3⟩ := pick_eq (l := [500000, 2000000, 0]) j1 (by simp) (by simp)
      refine Ok.eq a1 ?_
      obtain ⟨b, q2, b1, b2, b3⟩ := pick_eq (l := [0, 200, 100000]) a3 (by simp) (by simp)
      refine Ok.eq b1 ?_
      obtain ⟨d, q3, d1, d2, d3⟩ := pick_eq (l := [0, 100000, 400000]) b3 (by simp) (by simp)
      refine Ok.eq d1 (Ok.gd (fits_t (by simp only; omega)) (Ok.ret ⟨_, q3, rfl, d3, by simp; omega⟩))
    rintro _ ⟨st', q3, rfl, m1, m2⟩
    refine Ok.ret ?_
    rw [wi (by omega)]
    exact ⟨⟨_, q3, po', st', rfl, m1, h2, m2, by omega⟩, by simp only; omega⟩
  rintro _ ⟨p7, po, st, rfl, g1⟩
  exact Ok.ret ⟨_, p7, rfl, g1, f2, f3⟩

theorem fills_eq {n : Net} {c : Int} {s : List Int} {p : Int} (h : SrcOk s p) (hn : Segs n.2.1 8) (hc : 1 ≤ c ∧ c ≤ 1000) : Ok (keep_Src_Fills n c s p) fun r => ∃ (p' : Int) (fs : List (List Pc)), r = (s, p', fs) ∧ SrcOk s p' ∧ fs.length = n.2.1.length ∧ ∀ f ∈ fs, f.length ≤ 12 := by
  unfold keep_Src_Fills
  have hl := hn.len
  refine Ok.bind (Q := fun r => ∃ (p' : Int) (fs : List (List Pc)), r = (s, p', fs) ∧ SrcOk s p' ∧ fs.length = n.2.1.length ∧ ∀ f ∈ fs, f.length ≤ 12) ?_ ?_
  · refine Ok.loop (fun x => ∃ (i : Nat) (p' : Int) (fs : List (List Pc)), x = ((i : Int), s, p', fs) ∧ SrcOk s p' ∧ fs.length = i ∧ i ≤ n.2.1.length ∧ ∀ f ∈ fs, f.length ≤ 12) (fun x => (8 - x.1).toNat) ⟨0, p, [], rfl, h, rfl, by omega, by simp⟩ ?_
    rintro _ ⟨i, p', fs, rfl, k1, k2, k3, k4⟩
    unfold keep_Src_Fills_L0
    refine Ok.bif (fun hi => ?_) (fun hi => Ok.ret ⟨p', fs, rfl, k1, by have := of_decide_eq_false hi; omega, k4⟩)
    have hi : i < n.2.1.length := by have := of_decide_eq_true hi; omega
    refine Ok.gd (inB_t hi) ?_
    rw [Int.toNat_natCast]
    have hcap := hn.cap _ (gD_mem (d := ([], (0, (0, (0, (0, (0, []))))))) hi)
    refine Ok.bind (fill_eq k1 (by omega) hc) ?_
    rintro _ ⟨f, q, rfl, g1, g2, -⟩
    refine Ok.gd (fits_t (by simp only; omega)) (Ok.ret ?_)
    rw [wi (by omega)]
    refine ⟨⟨i + 1, q, _, rfl, g1, by simp [k2], by omega, fun f' hf' => ?_⟩, by simp only; omega⟩
    rcases List.mem_append.1 hf' with hf' | hf'
    · exact k4 f' hf'
    · rw [List.mem_singleton.1 hf']; exact g2
  · rintro _ ⟨p', fs, rfl, h1, h2⟩
    exact Ok.ret ⟨p', fs, rfl, h1, h2⟩

theorem ints_same {a : List Int} (h : a.length ≤ 1000000) : ref23_SameInts a a = some true := by
  have := iter_for (step := fun x => ref23_SameInts_L0 a a x) a.length (fun i => (i : Int)) (e := .inl ()) (fun i hi => by
      unfold ref23_SameInts_L0
      simp only [dec_t (show (i : Int) < (a.length : Int) by omega), cond_true, gd_t (inB_t hi), decide_true, Bool.not_true, cond_false]
      rw [wi (by omega)]; rfl) (by
      unfold ref23_SameInts_L0
      simp only [dec_f (show ¬ (a.length : Int) < (a.length : Int) by omega), cond_false])
  unfold ref23_SameInts
  simp only [decide_true, Bool.not_true, cond_false]
  rw [show ((0 : Int)) = ((0 : Nat) : Int) from rfl, this]; rfl
theorem lit_fin (fs : List (List Pc)) : ∃ (e : Int) (l : List Int), audit_Litres fs = some (e, l) ∧ ref45_Litres fs = some (l, e) ∧ l.length ≤ 1000000 := by
  rw [lit_eq, rlit_eq]
  by_cases h : errF fs = 0
  · rw [if_pos h, if_pos h]
    refine ⟨0, _, rfl, rfl, ?_⟩
    have := mx_in h
    unfold litF
    rw [tabL_len]; omega
  · rw [if_neg h, if_neg h]
    exact ⟨errF fs, [], rfl, rfl, by simp⟩

theorem fills_true {l : List Int} {odd vby : Int} (hl : ∀ x ∈ l, i64P x) (ho : i64P odd) (hb : i64P vby) : law45_AuditFills l odd vby = some true := by
  refine Ok.true ?_
  have aw : Ok (law45_awake.bind fun r => some r) (fun b => b = true) := Ok.eq awake_true (Ok.ret rfl)
  unfold law45_AuditFills
  refine Ok.eq (few_eq l) (Ok.bif (fun _ => aw) fun _ => ?_)
  obtain ⟨s, hs, s0⟩ := new_eq hl
  refine Ok.eq hs (Ok.bind (network_eq s0) ?_)
  rintro _ ⟨n, p1, rfl, s1, n1, n2⟩
  refine Ok.bind (fills_eq (n := (n.1, (n.2.1, (n.2.2.1, (n.2.2.2.1, (n.2.2.2.2.1, n.2.2.2.2.2)))))) s1 n2 (by omega)) ?_
  rintro _ ⟨p2, fs, rfl, s2, f1, f2⟩
  have hl8 := n2.len
  simp only at f1 ⊢
  obtain ⟨k, p3, a1, a2, a3, s3⟩ := n_eq (n := (fs.length : Int)) s2 (by omega) (by omega)
  refine Ok.eq a1 ?_
  obtain ⟨b, p4, b1, b2, b3, s4⟩ := n_eq (n := 2) s3 (by omega) (by omega)
  refine Ok.eq b1 ?_
  obtain ⟨i, rfl⟩ : ∃ i : Nat, k = (i : Int) := ⟨k.toNat, by omega⟩
  have hi : i < fs.length := by omega
  have hi2 : i < n.2.1.length := by omega
  refine Ok.gd (inB_t hi2) ?_
  simp only [Int.toNat_natCast]
  have hcap := n2.cap _ (gD_mem (d := ([], (0, (0, (0, (0, (0, []))))))) hi2)
  obtain ⟨v, p5, c1, c2, c3, s5⟩ := range_eq (lo := 1) (hi := (n.2.1.getD i ([], (0, (0, (0, (0, (0, []))))))).2.2.2.1) s4 (by omega) (by omega) (by omega)
  refine Ok.eq c1 (Ok.bind (fill_eq s5 (by omega) (by omega)) ?_)
  rintro _ ⟨vin, p6, rfl, s6, v1, v2, v3, v4⟩
  have v5 := v4 c2
  refine Ok.gd (inB_t hi) (Ok.eq (push_eq _ _ _).2 ?_)
  obtain ⟨l1, l2⟩ := pushF_len (fs.getD i []) vin (decide (b = 0))
  obtain ⟨e, X, O, hp⟩ : ∃ e X O, pushF (fs.getD i []) vin (decide (b = 0)) = (e, X, O) := ⟨_, _, _, rfl⟩
  rw [hp] at l1 l2 ⊢
  simp only at l1 l2 ⊢
  rw [List.nil_append]
  refine Ok.gd (fits_t (by omega)) (Ok.gd (inB_t hi) (Ok.gd (inB_t hi) ?_))
  refine Ok.eq (smod_eq ho (by omega) (by omega)) ?_
  have hset : ∀ x, i < (fs.set i x).length := fun x => by rw [List.length_set]; exact hi
  refine Ok.bind (Q := fun _ => True) ?_ fun z _ => ?_
  · refine Ok.bif (fun _ => ?_) fun _ => ?_
    · refine Ok.gd (fits_t (by omega)) (Ok.eq (smod_eq hb (by omega) (by omega)) (Ok.gd (fits_t (by rw [List.nil_append]; omega)) (Ok.gd (inB_t (hset _)) (Ok.ret trivial))))
    refine Ok.bind (Q := fun _ => True) ?_ fun z _ => Ok.ret trivial
    refine Ok.bif (fun _ => ?_) fun _ => ?_
    · refine Ok.gd (fits_t (by omega)) (Ok.bind (Q := fun _ => True) ?_ fun z _ => Ok.ret trivial)
      refine Ok.bif (fun h => ?_) fun _ => Ok.ret trivial
      have h := of_decide_eq_true h
      refine Ok.gd ?_ (Ok.ret trivial)
      exact inB_t (i := 0) (by omega)
    refine Ok.bind (Q := fun _ => True) ?_ fun z _ => Ok.ret trivial
    refine Ok.bif (fun _ => Ok.ret trivial) fun _ => ?_
    refine Ok.bind (Q := fun _ => True) ?_ fun z _ => Ok.ret trivial
    refine Ok.bif (fun _ => ?_) fun _ => ?_
    · refine Ok.gd (fits_t (by omega)) (Ok.eq (smod_eq hb (by omega) (by omega)) (Ok.gd ?_ (Ok.ret trivial)))
      rw [List.nil_append]
      exact inB_t (i := 0) (by omega)
    refine Ok.bind (Q := fun _ => True) ?_ fun z _ => Ok.ret trivial
    refine Ok.bif (fun _ => ?_) fun _ => ?_
    · refine Ok.gd ?_ (Ok.ret trivial)
      rw [fits_t (by omega)]; rfl
    refine Ok.bind (Q := fun _ => True) ?_ fun z _ => Ok.ret trivial
    refine Ok.bif (fun _ => ?_) fun _ => ?_
    · refine Ok.gd ?_ (Ok.ret trivial)
      unfold cutG
      simp only [Bool.and_eq_true, decide_eq_true_eq, List.length_set]
      omega
    refine Ok.bind (Q := fun _ => True) ?_ fun z _ => Ok.ret trivial
    exact Ok.bif (fun _ => Ok.ret trivial) fun _ => Ok.ret trivial
  · refine Ok.eq (kept_eq _ _ _ _) (Ok.eq (rkept_eq _ _ _ _) (Ok.eq (order_eq _ _ _ _ _).1 (Ok.eq (order_eq _ _ _ _ _).2 ?_)))
    obtain ⟨e, u, q1, q2, q3⟩ := lit_fin z.2.2.2.2.1
    refine Ok.eq q1 (Ok.eq q2 ?_)
    simp only [decide_true, cond_true, beq_self_eq_true]
    exact Ok.eq (ints_same q3) aw
end Go.Proofs.Ytnhaphgnpgaocaa
