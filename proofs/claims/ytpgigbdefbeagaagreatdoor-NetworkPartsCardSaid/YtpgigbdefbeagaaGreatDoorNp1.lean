/- A network without its last port, or with one more. No condition. -/
import Derived.Test.YtpgigbdefbeagaaGreatDoorNf2
namespace Go.Proofs.YtpgigbdefbeagaaGreatDoor
open Go Go.Sq
theorem chkP {k : Nat} {n : Net} (h : NetP k n) {q : List Port} (hl0 : q.length ≤ 24) (hf0 : (q.map (·.1)).all nameB = true) (hd0 : (q.map (·.1)).Nodup) (hr : ∀ p ∈ q, (0 ≤ p.2.1 ∧ p.2.1 < k) ∧ 0 ≤ p.2.2 ∧ p.2.2 ≤ 100000000) : qe5 (n.1, n.2.1, q, n.2.2.2) = 0 := by
 have a1 := h.k2; have a2 := h.k6; have a3 := h.segs.len; have a5 := h.stats.len
 have e : n.1.length = k := by rw [h.nodes, qfB]
 have hl : limB (n.1, n.2.1, q, n.2.2.2) = true := (qhv _).2 ⟨by show 1 ≤ n.1.length; omega, by show n.1.length ≤ 24; omega, by show n.2.1.length ≤ 32; omega, hl0, by show n.2.2.2.1.length ≤ 12; omega, fun s hs => ⟨(h.segs.rng s hs).pts.l2, (h.segs.rng s hs).pts.l8⟩⟩
 have hf : formB (n.1, n.2.1, q, n.2.2.2) = true := by
  unfold formB nmsOf
  simp only [List.all_cons, List.all_nil]
  rw [hf0, h.nodes, h.segs.nam, h.stats.nam, qdC 110 (by decide) (by omega), qdC 103 (by decide) (by omega), qdC 115 (by decide) (by omega)]; rfl
 have htw := (ql8 (chk0 h)).tw
 unfold twB at htw
 rw [Bool.or_eq_false_iff] at htw
 have ht : twB (n.1, n.2.1, q, n.2.2.2) = false := by
  unfold twB nmsOf
  simp only [List.any_cons, List.any_nil]
  rw [h.nodes, h.segs.nam, h.stats.nam, qdd (qdb 110 (by omega)), qdd (qdb 103 (by omega)), qdd hd0, qdd (qdb 115 (by omega)), htw.2]; rfl
 have hk : knB (n.1, n.2.1, q, n.2.2.2) = true := by
  unfold knB kn
  rw [Bool.and_eq_true, Bool.and_eq_true, List.all_eq_true, List.all_eq_true, List.all_eq_true]
  simp only [e]
  refine ⟨fun s hs => ?_, fun s hs => ?_, fun s hs => ?_⟩
  ·have := h.segs.rng s hs
   have b1 := this.f0; have b2 := this.f1; have b3 := this.t0; have b4 := this.t1
   rw [decide_eq_true b1, decide_eq_true b3, decide_eq_true (by omega), decide_eq_true (by omega)]; rfl
  ·have := hr s hs
   rw [decide_eq_true this.1.1, decide_eq_true (by omega)]; rfl
  ·have := h.stats.rng s hs
   rw [decide_eq_true this.1, decide_eq_true (by omega)]; rfl
 have hp : prB (n.1, n.2.1, q, n.2.2.2) = true := by
  unfold prB
  rw [rg_t h.vap, rg_t h.set, List.all_eq_true.2 fun s hs => qpy (h.segs.rng s hs), List.all_eq_true.2 fun s hs => rg_t (hr s hs).2, List.all_eq_true.2 fun s hs => ?_]
  ·rfl
  ·have := h.stats.rng s hs
   unfold stB
   rw [rg_t this.2.2.1, rg_t this.2.2.2.1, rg_t this.2.2.2.2]; rfl
 unfold qe5
 rw [hl, hf, ht, hk, hp]; rfl
theorem qg0 {n : Net} (h0 : qe5 n = 0) (hc : (rowsN n).length ≤ 170) : qbe n = some (txt (rowsN n), 0) ∧ (txt (rowsN n)).length ≤ 15640 := by
 have hv := ql8 h0
 have h1 := qqs (n := 91) fun w hw => qp0 (hv.rows w hw)
 have h2 := (qjz (rowsN n)).2
 refine ⟨?_, by omega⟩
 rw [qov h0, qo7 (fun w hw => (hv.rows w hw).pr) (by omega) (by omega)]
def hdN (n : Net) : List (List Str) := ([qkn n] ++ n.1.map qjB) ++ n.2.1.flatMap (qcX n.1)
theorem rowsQ (n : Net) (q : List Port) : rowsN (n.1, n.2.1, q, n.2.2.2) = (hdN n ++ q.map (qbU n.1)) ++ n.2.2.2.1.map (qhb n.1) := rfl
theorem qp2 {k : Nat} {n : Net} (h : NetP k n) : (hdN n).length ≤ 79 := by
 have hv := ql8 (chk0 h)
 have e : n.1.length = k := by rw [h.nodes, qfB]
 have a2 := h.k6; have a3 := h.segs.len
 have := qou (f := qcX n.1) (K := 9) (l := n.2.1) (fun s hs => by unfold qcX; have := (hv.seg hs).l2; simp; omega)
 unfold hdN
 simp only [List.length_append, List.length_map, List.length_singleton]
 omega
theorem qma (n : List Str) (p : Port) : (txt [qbU n p]).length = 8 + p.1.length + (n.getD p.2.1.toNat []).length + (Lib.itoa p.2.2).length := by
 have h := qgL (w := qbU n p) (by simp [qbU])
 rw [qop, List.length_append]
 unfold sumL at h
 simp only [qbU, List.map_append, List.map_cons, List.map_nil, List.sum_append, List.sum_cons, List.sum_nil, List.length_append, List.length_cons, List.length_nil] at h ⊢
 omega
theorem qbM (a b : List (List Str)) : (txt (a ++ b)).length = (txt a).length + (txt b).length := by rw [qlo, List.length_append]
theorem qmO {l : List Int} (hl : ∀ x ∈ l, i64P x) (v : Int) (hv : 0 ≤ v ∧ v < 256) : qcH l v = some true := by
 refine Ok.true ?_
 unfold qcH
 obtain ⟨s, h0, hs⟩ := qqi hl
 refine Ok.eq h0 ?_
 refine Ok.bind (qql hs) ?_
 rintro ⟨n, s', p'⟩ ⟨_, _, k, hn⟩
 replace hn : NetP k n := hn
 have b1 := hn.k2; have b2 := hn.k6
 have b3 := hn.ports.len; have b4 := hn.some'; have b5 := hn.stats.len
 have e1 : n.1.length = k := by rw [hn.nodes, qfB]
 obtain ⟨a, ha, hak⟩ := cut8 (n := n.1.length) hv (by omega)
 have hw : wi64 ((n.2.2.1.length : Int) - 1) = ((n.2.2.1.length - 1 : Nat) : Int) := by rw [wi (by omega)]; omega
 simp only [ha, hw, Int.toNat_natCast, List.nil_append]
 have hpn := hn.ports.nam
 have hnd : (n.2.2.1.map (·.1)).Nodup := by rw [hpn]; exact qdb 113 (by omega)
 have hnf : (n.2.2.1.map (·.1)).all nameB = true := by rw [hpn]; exact qdC 113 (by decide) (by omega)
 have hext : ([101, 120, 116, 114, 97] : Str) ∉ n.2.2.1.map (·.1) := by
  rw [hpn]
  intro h
  obtain ⟨q, _, hq⟩ := qoi h
  have := congrArg List.length hq
  simp [nm] at this
 -- the three networks
 have hlast := qbu (l := n.2.2.1) (i := n.2.2.1.length - 1) (([], (0, 0)) : Port) (by omega)
 rw [show n.2.2.1.length - 1 + 1 = n.2.2.1.length by omega, List.take_length] at hlast
 have hc0 := qp2 hn
 have cm : qe5 (n.1, n.2.1, n.2.2.1 ++ [([101, 120, 116, 114, 97], ((a : Nat) : Int), 7)], n.2.2.2) = 0 := by
  refine chkP hn (by simp; omega) ?_ ?_ ?_
  ·rw [List.map_append, List.all_append, hnf]; show (true && (nameB [101, 120, 116, 114, 97] && true)) = true; decide +kernel
  ·rw [List.map_append, List.map_cons, List.map_nil, List.nodup_append]
   refine ⟨hnd, by simp, fun x hx y hy => ?_⟩
   rw [List.mem_singleton.1 hy]
   exact fun e => hext (by rw [e] at hx; exact hx)
  ·intro p hp
   rcases List.mem_append.1 hp with hp | hp
   ·have := hn.ports.rng p hp; exact ⟨⟨this.1, this.2.1⟩, this.2.2⟩
   ·rw [List.mem_singleton.1 hp]; exact ⟨⟨by show (0 : Int) ≤ (a : Int); omega, by show (a : Int) < (k : Int); omega⟩, by show (0 : Int) ≤ 7; decide, by show (7 : Int) ≤ 100000000; decide⟩
 have cl : qe5 (n.1, n.2.1, n.2.2.1.take (n.2.2.1.length - 1), n.2.2.2) = 0 := by
  refine chkP hn (by rw [List.length_take]; omega) ?_ ?_ ?_
  ·rw [List.all_eq_true] at hnf ⊢
   intro x hx
   refine hnf x ?_
   rw [List.map_take] at hx
   exact List.mem_of_mem_take hx
  ·rw [List.map_take]; exact List.Nodup.sublist (List.take_sublist _ _) hnd
  ·intro p hp
   have := hn.ports.rng p (List.mem_of_mem_take hp); exact ⟨⟨this.1, this.2.1⟩, this.2.2⟩
 have la : (rowsN n).length ≤ 100 := by
  show ((hdN n ++ n.2.2.1.map (qbU n.1)) ++ n.2.2.2.1.map (qhb n.1)).length ≤ 100
  simp only [List.length_append, List.length_map]; omega
 have f1 := qg0 (chk0 hn) (by omega)
 have f2 := qg0 cm (by rw [rowsQ]; simp only [List.length_append, List.length_map, List.length_singleton]; omega)
 have f3 := qg0 cl (by rw [rowsQ]; simp only [List.length_append, List.length_map, List.length_take]; omega)
 have g1 : (txt (rowsN n)).length = (txt (hdN n)).length + (txt (n.2.2.1.map (qbU n.1))).length + (txt (n.2.2.2.1.map (qhb n.1))).length := by
  show (txt ((hdN n ++ n.2.2.1.map (qbU n.1)) ++ n.2.2.2.1.map (qhb n.1))).length = _
  rw [qbM, qbM]
 have g0 : (txt (n.2.2.1.map (qbU n.1))).length = (txt ((n.2.2.1.take (n.2.2.1.length - 1)).map (qbU n.1))).length + (8 + (n.2.2.1.getD (n.2.2.1.length - 1) (([], (0, 0)) : Port)).1.length + (n.1.getD (n.2.2.1.getD (n.2.2.1.length - 1) (([], (0, 0)) : Port)).2.1.toNat []).length + (Lib.itoa (n.2.2.1.getD (n.2.2.1.length - 1) (([], (0, 0)) : Port)).2.2).length) := by
  rw [← qma n.1, ← qbM]
  congr 2
  conv => lhs; rw [hlast]
  rw [List.map_append]; rfl
 have g2 := f2.2; have g3 := f3.2; have g1' := f1.2
 have e7 : (Lib.itoa 7).length = 1 := by rw [qjA (by omega), show (7 : Int).toNat = 7 from rfl, Lib.decDigits_one (by omega)]; rfl
 have g2e : (txt (rowsN (n.1, n.2.1, n.2.2.1 ++ [([101, 120, 116, 114, 97], ((a : Nat) : Int), 7)], n.2.2.2))).length = (txt (rowsN n)).length + (14 + (n.1.getD a []).length) := by
  rw [rowsQ, List.map_append, qbM, qbM, qbM, g1]
  have := qma n.1 ([101, 120, 116, 114, 97], ((a : Nat) : Int), 7)
  simp only [Int.toNat_natCast, e7] at this
  rw [show ([([101, 120, 116, 114, 97], ((a : Nat) : Int), (7 : Int))] : List Port).map (qbU n.1) = [qbU n.1 ([101, 120, 116, 114, 97], ((a : Nat) : Int), 7)] from rfl, this]
  show _ + (_ + (8 + 5 + _ + 1)) + _ = _
  omega
 have g3e : (txt (rowsN (n.1, n.2.1, n.2.2.1.take (n.2.2.1.length - 1), n.2.2.2))).length = (txt (hdN n)).length + (txt ((n.2.2.1.take (n.2.2.1.length - 1)).map (qbU n.1))).length + (txt (n.2.2.2.1.map (qhb n.1))).length := by
  rw [rowsQ, qbM, qbM]
 refine Ok.gd (qbG (by omega)) ?_
 refine Ok.gd (by rw [dec_f (by omega)]; rfl) ?_
 refine Ok.gd (qbG (by omega)) ?_
 refine Ok.gd (by unfold cutG; simp) ?_
 refine Ok.eq f1.1 ?_
 refine Ok.eq f2.1 ?_
 refine Ok.eq f3.1 ?_
 have hn12 : ∀ i, (n.1.getD i []).length ≤ 12 := fun i => by
  by_cases h : i < n.1.length
  ·exact (qgM (List.all_eq_true.1 (by rw [hn.nodes]; exact qdC 110 (by decide) (by omega)) _ (qaV (d := []) h))).2
  ·rw [qqd (by omega)]; simp
 have hq := hn.ports.rng _ (qaV (d := (([], (0, 0)) : Port)) (show n.2.2.1.length - 1 < n.2.2.1.length by omega))
 have hq12 : (n.2.2.1.getD (n.2.2.1.length - 1) (([], (0, 0)) : Port)).1.length ≤ 12 := (qgM (List.all_eq_true.1 hnf _ (List.mem_map_of_mem (qaV (d := (([], (0, 0)) : Port)) (show n.2.2.1.length - 1 < n.2.2.1.length by omega))))).2
 have i1 := hn12 a; have i2 := hn12 (n.2.2.1.getD (n.2.2.1.length - 1) (([], (0, 0)) : Port)).2.1.toNat
 refine Ok.gd (inB_t (by omega)) ?_
 refine Ok.bif (fun _ => ?_) (fun h => by simp at h)
 refine Ok.bif (fun _ => ?_) (fun h => by simp at h)
 refine Ok.bif (fun _ => ?_) (fun h => by simp at h)
 refine Ok.gd (by rw [dec_f (by omega)]; rfl) ?_
 refine Ok.gd (inB_t hak) ?_
 refine Ok.gd (Nat.ble_eq_true_of_le (by simp only [List.length_cons, List.length_nil]; omega)) ?_
 refine Ok.gd (Nat.ble_eq_true_of_le (by simp only [List.length_append, List.length_cons, List.length_nil]; omega)) ?_
 refine Ok.bif (fun _ => ?_) (fun h => absurd h (by
  rw [Bool.not_eq_false, decide_eq_true_eq, g2e, wi (by simp only [List.length_append, List.length_cons, List.length_nil]; omega)]
  simp only [List.length_append, List.length_cons, List.length_nil]; omega))
 refine Ok.gd (Nat.ble_eq_true_of_le (by simp only [List.length_cons, List.length_nil]; omega)) ?_
 refine Ok.gd (Nat.ble_eq_true_of_le (by simp only [List.length_append, List.length_cons, List.length_nil]; omega)) ?_
 refine Ok.gd (inB_i ⟨hq.1, by omega⟩) ?_
 refine Ok.gd (Nat.ble_eq_true_of_le (by simp only [List.length_append, List.length_cons, List.length_nil]; omega)) ?_
 refine Ok.gd (Nat.ble_eq_true_of_le (by simp only [List.length_append, List.length_cons, List.length_nil]; omega)) ?_
 refine Ok.bif (fun _ => ?_) (fun h => absurd h (by
  rw [Bool.not_eq_false, decide_eq_true_eq, g3e, wi (by simp only [List.length_append, List.length_cons, List.length_nil]; omega)]
  simp only [List.length_append, List.length_cons, List.length_nil]; omega))
 have hport : qeh (n.1, (n.2.1, (n.2.2.1 ++ [([101, 120, 116, 114, 97], (((a : Nat) : Int), 7))], (n.2.2.2.1, (n.2.2.2.2.1, n.2.2.2.2.2))))) [101, 120, 116, 114, 97] = some (n.2.2.1.length : Int) := by
  unfold qeh
  rw [qdc _ (fun p => decide (p.1 = [101, 120, 116, 114, 97])) _ (fun x _ => rfl) (by simp; omega), Option.bind_some]
  have hf : List.findIdx (fun p : Port => decide (p.1 = [101, 120, 116, 114, 97])) (n.2.2.1 ++ [([101, 120, 116, 114, 97], (((a : Nat) : Int), 7))]) = n.2.2.1.length := by
   rw [List.findIdx_append]
   have : List.findIdx (fun p : Port => decide (p.1 = [101, 120, 116, 114, 97])) n.2.2.1 = n.2.2.1.length := List.findIdx_eq_length.2 fun p hp => decide_eq_false fun e => hext (e ▸ List.mem_map_of_mem hp)
   rw [this, if_neg (by omega)]
   simp [List.findIdx_cons]
  rw [hf, if_pos (by simp)]
 refine Ok.eq hport ?_
 refine Ok.bif (fun _ => ?_) (fun h => by simp at h)
 refine Ok.eq qmL ?_
 exact Ok.ret rfl
end Go.Proofs.YtpgigbdefbeagaaGreatDoor
