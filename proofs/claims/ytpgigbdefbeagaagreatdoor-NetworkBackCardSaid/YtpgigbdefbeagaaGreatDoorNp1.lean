/- A network without its last port, or with one more. No condition. -/
import Derived.Test.YtpgigbdefbeagaaGreatDoorNf2
namespace Go.Proofs.YtpgigbdefbeagaaGreatDoor
open Go Go.Sq
theorem qjz {n : Net} (h0 : qfc n = 0) (hc : (rowsN n).length ≤ 170) : qcw n = some (txt (rowsN n), 0) ∧ (txt (rowsN n)).length ≤ 15640 := by
 have hv := qlh h0
 have h1 := qsh (n := 91) fun w hw => qrH (hv.rows w hw)
 have h2 := (qkp (rowsN n)).2
 refine ⟨?_, by omega⟩
 rw [qpJ h0, qqx (fun w hw => (hv.rows w hw).pr) (by omega) (by omega)]
def hdN (n : Net) : List (List Str) := ([qi8 n] ++ n.1.map qgY) ++ n.2.1.flatMap (qci n.1)
theorem qrJ {k : Nat} {n : Net} (h : NetP k n) : (hdN n).length ≤ 79 := by
 have hv := qlh (chk0 h)
 have e : n.1.length = k := by rw [h.nodes, qgV]
 have a2 := h.k6; have a3 := h.segs.len
 have := qpI (f := qci n.1) (K := 9) (l := n.2.1) (fun s hs => by unfold qci; have := (hv.seg hs).l2; simp; omega)
 unfold hdN
 simp only [List.length_append, List.length_map, List.length_singleton]
 omega
end Go.Proofs.YtpgigbdefbeagaaGreatDoor
