/- LotsMade: the law. No condition. -/
import Derived.Test.YtiojagjejddocaaGreatDoorLm5
import Derived.Test.YtiojagjejddocaaGreatDoorLa2
namespace Go.Proofs.YtiojagjejddocaaGreatDoor
open Go Go.Sq
set_option linter.unusedVariables false
/-! ### Sources, whatever list they have -/
theorem sN {n : Int} {s : List Int} {p : Int} (h : SrcOk s p) (h1 : 1 ≤ n) (h2 : n ≤ 4611686018427387904) : Ok (keep_Src_N n s p) fun q => SrcOk q.2.1 q.2.2 ∧ 0 ≤ q.1 ∧ q.1 < n :=
  (srcN h h1 h2).mono fun q ⟨e, hq, a, b⟩ => ⟨by rw [e]; exact hq, a, b⟩
theorem sNn {n : Nat} {s : List Int} {p : Int} (h : SrcOk s p) (h1 : 1 ≤ n) (h2 : n ≤ 1000000) : Ok (keep_Src_N (n : Int) s p) fun q => SrcOk q.2.1 q.2.2 ∧ ∃ k : Nat, q.1 = (k : Int) ∧ k < n :=
  (sN h (n := (n : Int)) (by omega) (by omega)).mono fun q ⟨hq, a, b⟩ => ⟨hq, q.1.toNat, by omega, by omega⟩
theorem sR {lo hi : Int} {s : List Int} {p : Int} (h : SrcOk s p) (h0 : -1000000 ≤ lo) (h1 : lo ≤ hi) (h2 : hi ≤ 1000000) : Ok (keep_Src_Range lo hi s p) fun q => SrcOk q.2.1 q.2.2 ∧ lo ≤ q.1 ∧ q.1 ≤ hi :=
  (srcR h h0 h1 h2).mono fun q ⟨e, hq, a, b⟩ => ⟨by rw [e]; exact hq, a, b⟩
theorem sP {l s : List Int} {p : Int} (h : SrcOk s p) (h1 : l ≠ []) (h2 : l.length ≤ 1000000) : Ok (keep_Src_Pick l s p) fun q => SrcOk q.2.1 q.2.2 ∧ q.1 ∈ l :=
  (srcP h h1 h2).mono fun q ⟨e, hq, a⟩ => ⟨by rw [e]; exact hq, a⟩
theorem sT {l : List (List UInt8)} {s : List Int} {p : Int} (h : SrcOk s p) (h1 : l ≠ []) (h2 : l.length ≤ 1000000) : Ok (keep_Src_Text l s p) fun q => SrcOk q.2.1 q.2.2 ∧ q.1 ∈ l := by
  have hp := List.length_pos_iff.2 h1
  unfold keep_Src_Text
  refine Ok.bind (sNn h (by omega) h2) ?_
  rintro ⟨r, s1, p1⟩ ⟨h, i, e, hi⟩
  simp only at h e
  subst e
  refine Ok.gd (inB_t hi) (.ret ⟨h, ?_⟩)
  rw [Int.toNat_natCast]; exact gD_mem hi
theorem prods6 {s : List Int} {p : Int} (h : SrcOk s p) : Ok (keep_Src_Products s p) fun q => SrcOk q.1 q.2.1 ∧ 1 ≤ q.2.2.length ∧ q.2.2.length ≤ 4 ∧ ∀ x ∈ q.2.2, x.1.length ≤ 2 := by
  unfold keep_Src_Products
  refine Ok.bind (sR h (by omega) (by omega) (by omega)) ?_
  rintro ⟨m, s1, p1⟩ ⟨h, m1, m4⟩
  simp only at h m1 m4
  refine Ok.bind (Q := fun q : List Int × Int × List Pro => SrcOk q.1 q.2.1 ∧ 1 ≤ q.2.2.length ∧ q.2.2.length ≤ 4 ∧ ∀ x ∈ q.2.2, x.1.length ≤ 2) ?_ fun q hq => .ret hq
  refine Ok.loop (fun x : Int × List Int × Int × List Pro => SrcOk x.2.1 x.2.2.1 ∧ 0 ≤ x.1 ∧ 1 ≤ x.1 + x.2.2.2.length ∧ x.1 + x.2.2.2.length ≤ 4 ∧ ∀ z ∈ x.2.2.2, z.1.length ≤ 2) (fun x => x.1.toNat) ⟨h, by (try simp only); omega, by simp; omega, by simp; omega, fun z hz => by cases hz⟩ ?_
  rintro ⟨i, s2, p2, out⟩ ⟨h, hi, a1, a2, a3⟩
  unfold keep_Src_Products_L0
  simp only at h hi a1 a2 a3 ⊢
  refine Ok.bif (fun hc => ?_) fun hc => .ret ⟨h, by have := of_decide_eq_false hc; (try simp only); omega, by (try simp only); omega, a3⟩
  have hc := of_decide_eq_true hc
  have hol : out.length < 4 := by omega
  refine Ok.bind (Q := fun q : Pro × List Int × Int => SrcOk q.2.1 q.2.2 ∧ q.1.1.length ≤ 2) ?_ ?_
  · unfold keep_Src_Product
    refine Ok.eq (name_eq 112 out.length (by omega)) ?_
    refine Ok.bind (sR h (by omega) (by omega) (by omega)) fun q h1 => Ok.bind (sP h1.1 (by simp) (by simp)) fun q2 h2 => Ok.bind (sP h2.1 (by simp) (by simp)) fun q3 h3 => Ok.bind (sP h3.1 (by simp) (by simp)) fun q4 h4 => .ret ⟨h4.1, by show (nm 112 out.length).length ≤ 2; simp [nm]⟩
  rintro ⟨x, s3, p3⟩ ⟨h, hx⟩
  simp only at h hx
  refine Ok.gd (fits_t (by (try simp only); omega)) ?_
  rw [show wi64 (i - 1) = i - 1 from wi (by omega)]
  refine .ret ⟨⟨h, by (try simp only); omega, by simp; omega, by simp; omega, fun z hz => ?_⟩, by (try simp only); omega⟩
  rcases List.mem_append.1 hz with hz | hz
  · exact a3 z hz
  · rw [List.mem_singleton.1 hz]; exact hx
theorem noms6 {n : Net} (hn : 1 ≤ n.2.2.1.length) (hn2 : n.2.2.1.length ≤ 1000) {ps : List Pro} (hp : 1 ≤ ps.length) (hp2 : ps.length ≤ 1000) {s : List Int} {p : Int} (h : SrcOk s p) :
    Ok (law29_nominations n s p ps) fun q => SrcOk q.1 q.2.1 ∧ q.2.2.1 = ps ∧ q.2.2.2.length ≤ 14 := by
  unfold law29_nominations
  refine Ok.bind (sN h (n := 14) (by omega) (by omega)) ?_
  rintro ⟨m, s1, p1⟩ ⟨h, m0, m1⟩
  simp only at h m0 m1
  refine Ok.bind (Q := fun q : List Int × Int × List Nom × List Pro => SrcOk q.1 q.2.1 ∧ q.2.2.2 = ps ∧ q.2.2.1.length ≤ 14) ?_ fun q hq => .ret hq
  refine Ok.loop (fun x : Int × List Int × Int × List Pro × List Nom => SrcOk x.2.1 x.2.2.1 ∧ 0 ≤ x.1 ∧ x.2.2.2.1 = ps ∧ x.1 + x.2.2.2.2.length ≤ 14) (fun x => x.1.toNat) ⟨h, by (try simp only); omega, rfl, by simp; omega⟩ ?_
  rintro ⟨i, s2, p2, ps2, l⟩ ⟨h, hi, e, hm⟩
  replace e : ps2 = ps := e
  subst e
  simp only at h hi hm
  unfold law29_nominations_L0
  simp only
  refine Ok.bif (fun hc => ?_) fun hc => .ret ⟨h, rfl, by (try simp only); omega⟩
  have hc := of_decide_eq_true hc
  refine Ok.bind (sT h (by simp) (by simp)) ?_
  rintro ⟨sh, s3, p3⟩ ⟨h, hsh⟩
  simp only at h
  refine Ok.bind (sNn h hp (by omega)) ?_
  rintro ⟨_, s4, p4⟩ ⟨h, a, rfl, ha⟩
  simp only at h
  refine Ok.gd (inB_t ha) ?_
  refine Ok.bind (sNn h hn (by omega)) ?_
  rintro ⟨_, s5, p5⟩ ⟨h, b, rfl, hb⟩
  simp only at h
  refine Ok.gd (inB_t hb) ?_
  refine Ok.bind (sN h (n := 3) (by omega) (by omega)) ?_
  rintro ⟨c, s6, p6⟩ ⟨h, _, _⟩
  simp only at h
  refine Ok.bind (sR h (by omega) (by omega) (by omega)) ?_
  rintro ⟨v, s7, p7⟩ ⟨h, _, _⟩
  simp only at h
  refine Ok.bind (sNn h hn (by omega)) ?_
  rintro ⟨_, s8, p8⟩ ⟨h, d, rfl, hd⟩
  simp only at h
  refine Ok.gd (inB_t hd) ?_
  refine Ok.bind (Q := fun q : List UInt8 × List UInt8 × List Pro × List Nom => q.2.2.1 = ps2 ∧ q.2.2.2 = l) (Ok.bif (fun _ => ?_) fun _ => .ret ⟨rfl, rfl⟩) ?_
  · refine Ok.gd (inB0 (by omega)) ?_
    rw [show wi64 ((n.2.2.1.length : Int) - 1) = ((n.2.2.1.length - 1 : Nat) : Int) by rw [wi (by omega)]; omega]
    exact Ok.gd (inB_t (by omega)) (.ret ⟨rfl, rfl⟩)
  rintro ⟨f, t, ps3, l3⟩ ⟨e1, e2⟩
  replace e1 : ps3 = ps2 := e1
  replace e2 : l3 = l := e2
  subst e1 e2
  refine Ok.gd (fits_t (by (try simp only); omega)) ?_
  rw [show wi64 (i - 1) = i - 1 from wi (by omega)]
  exact .ret ⟨⟨h, by (try simp only); omega, rfl, by simp; omega⟩, by (try simp only); omega⟩
theorem name6 (f : List UInt8) (n : Int) (hf : f.length ≤ 100) : Ok (keep_name f n) fun r => r.length ≤ 101 := by
  unfold keep_name
  have hl : ∀ x : Int, (toBytes [x]).length = 1 := fun x => rfl
  refine Ok.gd (Nat.ble_eq_true_of_le (by rw [hl]; omega)) (.ret ?_)
  rw [List.length_append, hl]; omega
theorem wrong6 {k : Nat} {n : Net} (hn : NetP k n) {s : List Int} {p : Int} (h : SrcOk s p) : Ok (keep_Src_Wrong n s p) fun q => SrcOk q.2.1 q.2.2 ∧ q.1.2.2.1.length = n.2.2.1.length := by
  have a2 := hn.k2; have a6 := hn.k6; have a4 := hn.ports.len; have a5 := hn.stats.len; have a7 := hn.segs.len; have a8 := hn.segk; have a9 := hn.some'
  have a1 : n.1.length = k := by rw [hn.nodes, nms_len]
  unfold keep_Src_Wrong
  simp only [List.nil_append]
  refine Ok.gd (fits_t (by omega)) (Ok.gd (fits_t (by omega)) (Ok.gd (fits_t (by omega)) (Ok.gd (fits_t (by omega)) ?_)))
  refine Ok.bind (sNn h (by omega) (by omega)) ?_
  rintro ⟨_, s1, p1⟩ ⟨h, r, rfl, hr⟩
  simp only at h
  refine Ok.gd (inB_t hr) ?_
  simp only [Int.toNat_natCast]
  have hsg := (hn.segs.rng _ (gD_mem (d := ([], (0, (0, (0, (0, (0, []))))))) hr)).pts
  have hpl := hsg.l8
  refine Ok.gd (fits_t (by omega)) ?_
  refine Ok.bind (sN h (n := 12) (by omega) (by omega)) ?_
  rintro ⟨c, s2, p2⟩ ⟨h, _, _⟩
  simp only at h
  refine Ok.bind (Q := fun q : Int × Int × Int × Int × Int × Int × List Pt × List Int × Int × List Str × List Seg × List Port × List Stat => SrcOk q.2.2.2.2.2.2.2.1 q.2.2.2.2.2.2.2.2.1 ∧ q.2.2.2.2.2.2.2.2.2.2.1.length = n.2.1.length ∧ q.2.2.2.2.2.2.2.2.2.2.2.1.length = n.2.2.1.length) ?_ ?_
  · refine Ok.bif (fun _ => ?_) fun _ => Ok.bif (fun _ => ?_) fun _ => Ok.bif (fun _ => ?_) fun _ => Ok.bif (fun _ => ?_) fun _ => Ok.bif (fun _ => ?_) fun _ => Ok.bif (fun _ => ?_) fun _ => Ok.bif (fun _ => ?_) fun _ => Ok.bif (fun _ => ?_) fun _ => Ok.bif (fun _ => ?_) fun _ => Ok.bif (fun _ => ?_) fun _ => Ok.bif (fun _ => ?_) fun _ => ?_
    · refine Ok.bind (sNn h (by omega) (by omega)) ?_
      rintro ⟨_, s3, p3⟩ ⟨h, i, rfl, hi⟩
      simp only at h
      refine Ok.bind (sT h (by simp) (by simp)) ?_
      rintro ⟨x, s4, p4⟩ ⟨h, _⟩
      exact Ok.gd (inB_t hi) (.ret ⟨h, rfl, rfl⟩)
    · exact Ok.bind (sP h (by simp) (by simp)) fun q hq => .ret ⟨hq.1, rfl, rfl⟩
    · exact Ok.bind (sP h (by simp) (by simp)) fun q hq => .ret ⟨hq.1, rfl, rfl⟩
    · exact Ok.bind (sP h (by simp) (by simp)) fun q hq => .ret ⟨hq.1, rfl, rfl⟩
    · exact Ok.bind (sP h (by simp) (by simp)) fun q hq => .ret ⟨hq.1, rfl, rfl⟩
    · refine Ok.bif (fun hc => ?_) fun _ => .ret ⟨h, rfl, rfl⟩
      have hc := of_decide_eq_true hc
      refine Ok.bind (sNn h (by omega) (by omega)) ?_
      rintro ⟨_, s3, p3⟩ ⟨h, i, rfl, hi⟩
      simp only at h
      refine Ok.bind (sP h (by simp) (by simp)) ?_
      rintro ⟨x, s4, p4⟩ ⟨h, _⟩
      exact Ok.gd (inB_t hi) (.ret ⟨h, rfl, rfl⟩)
    · have hm : min (3 : Int) (wi64 (((n.2.1.getD r ([], (0, (0, (0, (0, (0, []))))))).2.2.2.2.2.2.length : Int) + 1)) = ((min 3 ((n.2.1.getD r ([], (0, (0, (0, (0, (0, []))))))).2.2.2.2.2.2.length + 1) : Nat) : Int) := by rw [wi (by omega)]; omega
      rw [hm]
      refine Ok.bind (sNn h (by omega) (by omega)) ?_
      rintro ⟨_, s3, p3⟩ ⟨h, i, rfl, hi⟩
      simp only at h
      exact Ok.gd (inR_t (a := 0) (by omega) (by omega)) (.ret ⟨h, rfl, rfl⟩)
    · refine Ok.bif (fun hc => ?_) fun _ => .ret ⟨h, rfl, rfl⟩
      have hc := of_decide_eq_true hc
      refine Ok.bind (sNn h (by omega) (by omega)) ?_
      rintro ⟨_, s3, p3⟩ ⟨h, i, rfl, hi⟩
      simp only at h
      refine Ok.bind (sP h (by simp) (by simp)) ?_
      rintro ⟨x, s4, p4⟩ ⟨h, _⟩
      exact Ok.gd (inB_t hi) (.ret ⟨h, rfl, rfl⟩)
    · refine Ok.bif (fun hc => ?_) fun _ => .ret ⟨h, rfl, rfl⟩
      refine Ok.bind (sNn h (by omega) (by omega)) ?_
      rintro ⟨_, s3, p3⟩ ⟨h, i, rfl, hi⟩
      simp only at h
      refine Ok.bind (sT h (by simp) (by simp)) fun q1 h1 => Ok.bind (sP h1.1 (by simp) (by simp)) fun q2 h2 => Ok.bind (sP h2.1 (by simp) (by simp)) fun q3 h3 => ?_
      exact Ok.gd (inB_t hi) (.ret ⟨h3.1, rfl, by simp⟩)
    · exact Ok.bind (sT h (by simp) (by simp)) fun q1 h1 => Ok.bind (sP h1.1 (by simp) (by simp)) fun q2 h2 => Ok.bind (sP h2.1 (by simp) (by simp)) fun q3 h3 => Ok.bind (sP h3.1 (by simp) (by simp)) fun q4 h4 => Ok.bind (sP h4.1 (by simp) (by simp)) fun q5 h5 => Ok.gd (fits_t (by omega)) (.ret ⟨h5.1, rfl, rfl⟩)
    · exact Ok.bind (sP h (by simp) (by simp)) fun q1 h1 => Ok.bind (sP h1.1 (by simp) (by simp)) fun q2 h2 => .ret ⟨h2.1, rfl, rfl⟩
    · refine Ok.bind (Q := fun q : List Int × Int × List Str × List Seg × List Port × List Stat × List Pt => SrcOk q.1 q.2.1 ∧ q.2.2.2.1.length = n.2.1.length ∧ q.2.2.2.2.1.length = n.2.2.1.length) ?_ fun q hq => .ret hq
      refine Ok.loop (fun x : List Int × Int × List Str × List Seg × List Port × List Stat × List Pt => SrcOk x.1 x.2.1 ∧ x.2.2.1.length ≤ 25 ∧ x.2.2.2.1.length = n.2.1.length ∧ x.2.2.2.2.1.length = n.2.2.1.length) (fun x => 25 - x.2.2.1.length) ⟨h, by (try simp only); omega, rfl, rfl⟩ ?_
      rintro ⟨s3, p3, n2, n3, n4, n5, x⟩ ⟨h, hl, e1, e2⟩
      unfold keep_Src_Wrong_L0
      simp only at h hl e1 e2 ⊢
      refine Ok.bind (sN h (n := 2) (by omega) (by omega)) ?_
      rintro ⟨c2, s4, p4⟩ ⟨h, _, _⟩
      simp only at h
      rw [show wi64 (23 + c2) = 23 + c2 from wi (by omega)]
      refine Ok.bif (fun hc => ?_) fun _ => .ret ⟨h, e1, e2⟩
      have hc := of_decide_eq_true hc
      refine Ok.bind (name6 [121] (n2.length : Int) (by simp)) fun a ha => ?_
      refine Ok.bind (name6 [] _ (by simp)) fun b hb => ?_
      refine Ok.gd (Nat.ble_eq_true_of_le (by omega)) (Ok.gd (fits_t (by omega)) (.ret ⟨⟨h, by simp; omega, e1, e2⟩, by simp; omega⟩))
  rintro ⟨q1, q2, q3, q4, q5, q6, q7, s3, p3, q10, q11, q12, q13⟩ ⟨h, e1, e2⟩
  simp only at h e1 e2
  exact Ok.gd (inB_t (by (try simp only); omega)) (.ret ⟨h, e2⟩)
/-! ### The law -/
def aNet : Net := (([[97], [98]] : List (List UInt8)), ([([103], (0, (1, (10, (0, (0, [(0, (0, 1000)), (10, (0, 1000))]))))))], ([([112], (0, 0)), ([113], (1, 0))], ([], (0, 0)))))
def aPro : List Pro := [([111], (800, (0, (0, 1000))))]
def aNom : List Nom := [([115], ([111], ([112], ([113], (1, 50))))), ([115], ([111], ([112], ([113], (1, 70)))))]
def aTot : Nom := ([115], ([111], ([112], ([113], (1, 120)))))
theorem awake_true : law29_awake = some true := by
  have hN : chkN aNom = 0 := by decide +kernel
  obtain ⟨e, B, L, h1, _, _, h3⟩ := batches_eq aNet (ps := aPro) (fun p hp => by rw [List.mem_singleton.1 hp]; simp) (by simp [aPro]) (l := aNom) (by simp [aNom]) (order := []) (by simp)
  obtain ⟨T, t1, t2⟩ := totals_fit (l := aNom) (chkN_zero hN).1 (by simp [aNom]) (by decide +kernel)
  have hT : T = [aTot] := by
    refine t2.eq_of (by simp) (fun key => ?_) (by decide +kernel)
    have e1 : nkey aTot = nkey (aNom.getD 0 n0) := rfl
    have e2 : nkey aTot = nkey (aNom.getD 1 n0) := rfl
    constructor
    · rintro ⟨x, hx, rfl⟩
      rw [List.mem_singleton.1 hx, e1]
      exact ⟨_, by simp [aNom], rfl⟩
    · rintro ⟨x, hx, rfl⟩
      refine ⟨aTot, by simp, ?_⟩
      have hx : x = aNom.getD 0 n0 ∨ x = aNom.getD 1 n0 := by simpa [aNom] using hx
      rcases hx with rfl | rfl
      · exact e1
      · exact e2
  subst hT
  obtain ⟨S, hS, rfl, rfl, rfl⟩ := h3 (by decide +kernel) (by decide +kernel) hN _ t1 (by simp) (by decide +kernel)
  have hS := List.perm_singleton.1 hS
  subst hS
  exact bindE h1 (by decide +kernel)
theorem mod6 {x : Int} {n : Nat} (hx : i64P x) (h1 : 1 ≤ n) (h2 : n ≤ 1000000) : ∃ k : Nat, second_Mod x (n : Int) = some (k : Int) ∧ k < n := by
  unfold second_Mod
  rw [mod_eq hx (by omega) (by omega)]
  have b1 := Int.emod_nonneg x (show (n : Int) ≠ 0 by omega)
  have b2 := Int.emod_lt_of_pos x (show 0 < (n : Int) by omega)
  exact ⟨(x % (n : Int)).toNat, by simp only [Option.bind_some]; congr 1; omega, by omega⟩
abbrev S10 := List Int × Int × List Str × List Seg × List Port × List Stat × Int × Int × List Pro × List Nom
structure InP (q : S10) : Prop where
  src : SrcOk q.1 q.2.1
  po : 1 ≤ q.2.2.2.2.1.length
  po2 : q.2.2.2.2.1.length ≤ 1000
  ps : q.2.2.2.2.2.2.2.2.1.length ≤ 1000
  pn : ∀ p ∈ q.2.2.2.2.2.2.2.2.1, p.1.length ≤ 1000000
  nl : q.2.2.2.2.2.2.2.2.2.length ≤ 1000000
theorem made_true {l : List Int} {odd vby : Int} (hl : ∀ x ∈ l, i64P x) (ho : i64P odd) (hb : i64P vby) : law29_LotsMade l odd vby = some true := by
  refine Ok.true ?_
  unfold law29_LotsMade
  refine Ok.bind (Q := fun _ => True) (.ret trivial) fun r _ => ?_
  refine Ok.bif (fun _ => Ok.eq awake_true (.ret rfl)) fun _ => ?_
  obtain ⟨s, n1, n2⟩ := new_eq (l := l) hl
  refine Ok.eq n1 ?_
  refine Ok.bind (net_ok n2) ?_
  rintro ⟨n, s1, p1⟩ ⟨e, h, k, hn⟩
  replace e : s1 = s := e
  subst e
  simp only at h hn
  have a2 := hn.k2; have a6 := hn.k6; have a4 := hn.ports.len; have a9 := hn.some'
  refine Ok.bind (prods6 h) ?_
  rintro ⟨s2, p2, ps⟩ ⟨h, b1, b2, b3⟩
  simp only at h b1 b2 b3
  refine Ok.bind (show Ok (law29_nominations n s2 p2 ps) _ from noms6 (by omega) (by omega) b1 (by omega) h) ?_
  rintro ⟨s3, p3, ps2, x⟩ ⟨h, e, hx⟩
  replace e : ps2 = ps := e
  subst e
  simp only at h hx
  refine Ok.bind (sNn h b1 (by (try simp only); omega)) ?_
  rintro ⟨_, s4, p4⟩ ⟨h, a, rfl, ha⟩
  simp only at h
  refine Ok.gd (inB_t ha) (Ok.gd (inB0 (by omega)) ?_)
  refine Ok.bind (sN h (n := 4) (by omega) (by omega)) ?_
  rintro ⟨c, s5, p5⟩ ⟨h, c0, c1⟩
  simp only at h c0 c1
  refine Ok.gd (by show cutG none (some (.i64, c)) 3 = true; unfold cutG; rw [Bool.and_eq_true, decide_eq_true_eq, decide_eq_true_eq]; omega) ?_
  simp only [Int.toNat_natCast]
  have hord : (List.take c.toNat [(ps2.getD a ([], (0, (0, (0, 0))))).1, [122, 122], (ps2.getD 0 ([], (0, (0, (0, 0))))).1]).length ≤ 1000 := by rw [List.length_take]; simp; omega
  generalize List.take c.toNat [(ps2.getD a ([], (0, (0, (0, 0))))).1, [122, 122], (ps2.getD 0 ([], (0, (0, (0, 0))))).1] = order at hord
  refine Ok.bind (Q := fun q : S10 => InP q) ?_ ?_
  · have base : InP (s5, p5, n.1, n.2.1, n.2.2.1, n.2.2.2.1, n.2.2.2.2.1, n.2.2.2.2.2, ps2, x) := ⟨h, by (try simp only); omega, by (try simp only); omega, by (try simp only); omega, fun p hp => by have := b3 p hp; omega, by (try simp only); omega⟩
    refine Ok.bif (fun hc => ?_) fun _ => .ret base
    have hc := of_decide_eq_true hc
    obtain ⟨j, e1, hj⟩ := mod6 hb (n := x.length) (by omega) (by omega)
    refine Ok.eq e1 (Ok.gd (inB_t hj) ?_)
    obtain ⟨o, e2, _⟩ := mod6 ho (n := 10) (by omega) (by omega)
    refine Ok.eq e2 ?_
    refine Ok.bind (Q := fun q : S10 => InP q) (Ok.bif (fun _ => .ret ⟨base.src, base.po, base.po2, base.ps, base.pn, by simp; omega⟩) fun _ => ?_) fun q hq => .ret hq
    refine Ok.bind (Q := fun q : S10 => InP q) (Ok.bif (fun _ => .ret ⟨base.src, base.po, base.po2, base.ps, base.pn, by simp; omega⟩) fun _ => ?_) fun q hq => .ret hq
    refine Ok.bind (Q := fun q : S10 => InP q) (Ok.bif (fun _ => .ret ⟨base.src, base.po, base.po2, base.ps, base.pn, by simp; omega⟩) fun _ => ?_) fun q hq => .ret hq
    refine Ok.bind (Q := fun q : S10 => InP q) (Ok.bif (fun _ => Ok.gd (inB0 (by omega)) (Ok.gd (fits_t (by (try simp only); omega)) (.ret ⟨base.src, base.po, base.po2, by simp; omega, fun p hp => ?_, base.nl⟩))) fun _ => ?_) fun q hq => .ret hq
    · rcases List.mem_append.1 hp with hp | hp
      · have := b3 p hp; omega
      · rw [List.mem_singleton.1 hp]
        have := b3 _ (gD_mem (l := ps2) (k := 0) (d := ([], (0, (0, (0, 0))))) (by omega))
        exact Nat.le_trans this (by omega)
    refine Ok.bind (Q := fun q : S10 => InP q) (Ok.bif (fun _ => ?_) fun _ => .ret base) fun q hq => .ret hq
    refine Ok.bind (wrong6 (n := n) hn h) ?_
    rintro ⟨n', s6, p6⟩ ⟨h, e⟩
    simp only at h e
    exact .ret ⟨h, by (try simp only); omega, by (try simp only); omega, base.ps, base.pn, base.nl⟩
  rintro ⟨s6, p6, u1, u2, u3, u4, u5, u6, ps3, x3⟩ hI
  have h := hI.src
  have i1 := hI.po; have i2 := hI.po2
  simp only at h i1 i2
  obtain ⟨e, B, L, j1, j2, hBL, _⟩ := batches_eq (u1, (u2, (u3, (u4, (u5, u6))))) hI.pn hI.ps hI.nl hord
  refine Ok.eq j1 (Ok.eq j2 ?_)
  refine Ok.eq (a := (false, B, L)) ?_ ?_
  · simp only [decide_true, Bool.not_true, cond_false]
    rw [sameB_ok B (by have := hBL.b; omega), Option.bind_some]
    simp only [Bool.not_true, cond_false]
    rw [same_ok L (by have := hBL.l; omega)]; rfl
  simp only [cond_false]
  refine Ok.bind (Q := fun q : List Int × Int × List Bat × List Lot => SrcOk q.1 q.2.1 ∧ q.2.2.1 = B ∧ q.2.2.2.length = L.length) ?_ ?_
  · refine Ok.loop (fun x : Int × List Int × Int × List Bat × List Lot => ∃ i : Nat, x.1 = (i : Int) ∧ i ≤ L.length ∧ SrcOk x.2.1 x.2.2.1 ∧ x.2.2.2.1 = B ∧ x.2.2.2.2.length = L.length) (fun x => L.length - x.1.toNat) ⟨0, rfl, by omega, h, rfl, rfl⟩ ?_
    rintro ⟨_, s7, p7, B', q⟩ ⟨i, rfl, hi, h, e1, e2⟩
    replace e1 : B' = B := e1
    subst e1
    simp only at h e2
    unfold law29_LotsMade_L0
    simp only
    refine Ok.bif (fun hc => ?_) fun _ => .ret ⟨h, rfl, e2⟩
    have hc := of_decide_eq_true hc
    have hi' : i < q.length := by omega
    have hl200 := hBL.l
    refine Ok.gd (inB_t hi') (Ok.gd (inB_t hi') (Ok.gd (inB_t hi') ?_))
    refine Ok.bind (sP h (by simp) (by simp)) ?_
    rintro ⟨v, s8, p8⟩ ⟨h, _⟩
    simp only at h
    refine Ok.gd (inB_t hi') ?_
    rw [w1 hi' (by omega)]
    exact .ret ⟨⟨i + 1, rfl, by omega, h, rfl, by rw [List.length_set]; exact e2⟩, by simp only [Int.toNat_natCast]; omega⟩
  rintro ⟨s7, p7, B', q⟩ ⟨h, e1, e2⟩
  replace e1 : B' = B := e1
  subst e1
  simp only at h e2
  refine Ok.bind (Q := fun z : List Bat × List Lot => z.1 = B' ∧ z.2.length = L.length) ?_ ?_
  · refine Ok.bif (fun hc => ?_) fun _ => .ret ⟨rfl, e2⟩
    have hc := of_decide_eq_true hc
    obtain ⟨o, f2, _⟩ := mod6 ho (n := 10) (by omega) (by omega)
    refine Ok.eq f2 ?_
    refine Ok.bind (Q := fun z : List Bat × List Lot => z.1 = B' ∧ z.2.length = L.length) (Ok.bif (fun _ => Ok.gd (inB0 (by omega)) (.ret ⟨rfl, by simp [e2]⟩)) fun _ => ?_) fun z hz => .ret hz
    refine Ok.bind (Q := fun z : List Bat × List Lot => z.1 = B' ∧ z.2.length = L.length) (Ok.bif (fun _ => ?_) fun _ => .ret ⟨rfl, e2⟩) fun z hz => .ret hz
    obtain ⟨o2, f3, _⟩ := mod6 hb (n := 9) (by omega) (by omega)
    exact Ok.eq f3 (Ok.gd (inB0 (by omega)) (.ret ⟨rfl, by simp [e2]⟩))
  rintro ⟨B2, q2⟩ ⟨e3, e4⟩
  replace e3 : B2 = B' := e3
  subst e3
  simp only at e4
  have hBL2 : BatP B2 q2 := ⟨hBL.b, by have := hBL.l; omega, hBL.p⟩
  refine Ok.bind (sNn h i1 (by omega)) ?_
  rintro ⟨port, s8, p8⟩ ⟨h, _⟩
  simp only at h
  refine Ok.bind (sP h (by simp) (by simp)) ?_
  rintro ⟨lit, s9, p9⟩ ⟨h, _⟩
  simp only
  obtain ⟨b, e5, o, g1, g2, g3⟩ := pump_eq q2 lit hBL2.l
  have hq := hBL2.l
  refine Ok.eq g1 (Ok.eq g2 (Ok.eq (head_eq q2 (by omega)) (Ok.eq (rhead_eq q2 (by omega)) ?_)))
  refine Ok.bind (Q := fun t : List Int => lots_Totals B2 q2 = some t ∧ t.length ≤ 2000) ?_ ?_
  · obtain ⟨t, t1, t2⟩ := totals_ok hBL2
    exact ⟨t, t1, t1, t2⟩
  rintro t ⟨t1, t2⟩
  refine Ok.eq (by rw [rtotals_same hBL2]; exact t1) ?_
  simp only [decide_true, Bool.not_true, cond_false]
  refine Ok.bind (Q := fun z : List Lot ⊕ Bool => z = .inl o) ?_ ?_
  · refine Ok.loop (fun x : Int × List Lot × List Int × List Int => ∃ i : Nat, x = ((i : Int), o, t, t) ∧ i ≤ t.length) (fun x => t.length - x.1.toNat) ⟨0, rfl, by omega⟩ ?_
    rintro _ ⟨i, rfl, hi⟩
    unfold law29_LotsMade_L1
    simp only
    refine Ok.bif (fun hc => ?_) fun _ => .ret rfl
    have hc := of_decide_eq_true hc
    have hi : i < t.length := by omega
    refine Ok.gd (inB_t hi) (Ok.gd (inB_t hi) ?_)
    simp only [decide_true, Bool.not_true, cond_false]
    rw [w1 hi (by omega)]
    exact .ret ⟨⟨i + 1, rfl, by omega⟩, by simp only [Int.toNat_natCast]; omega⟩
  rintro _ rfl
  simp only [Sum.elim_inl, decide_true, cond_true, beq_self_eq_true]
  refine Ok.eq (same_ok o (by omega)) ?_
  simp only [cond_true]
  refine Ok.bind (Q := fun z : List Lot => lots_Of B2 q2 port = some z ∧ z.length ≤ 1000) ?_ ?_
  · obtain ⟨z, z1, z2⟩ := of_ok B2 q2 port (by omega)
    exact ⟨z, z1, z1, z2⟩
  rintro z ⟨z1, z2⟩
  refine Ok.eq (by rw [of_same B2 q2 port (by omega)]; exact z1) ?_
  refine Ok.eq (same_ok z (by omega)) ?_
  simp only [cond_true]
  exact Ok.eq awake_true (.ret rfl)
end Go.Proofs.YtiojagjejddocaaGreatDoor
