/- A network without its last port, or with one more. No condition. -/
import Derived.Test.YtpgigbdefbeagaaGreatDoorNf2
namespace Go.Proofs.YtpgigbdefbeagaaGreatDoor
open Go Go.Sq
theorem qtd {n : Net} (h0 : qcF n = 0) (hc : (rowsN n).length ≤ 170) : (txt (rowsN n)).length ≤ 15640 := by
 have hv := qma h0
 have h1 := qs8 (n := 91) fun w hw => qqz (hv.rows w hw)
 have h2 := (qql (rowsN n)).2
 omega
def hdN (n : Net) : List (List Str) := ([qkh n] ++ n.1.map qjE) ++ n.2.1.flatMap (qdp n.1)
theorem qsG {k : Nat} {n : Net} (h : NetP k n) : (hdN n).length ≤ 79 := by
 have hv := qma (chk0 h)
 have e : n.1.length = k := by rw [h.nodes, qhj]
 have a2 := h.k6; have a3 := h.segs.len
 have := qqA (f := qdp n.1) (K := 9) (l := n.2.1) (fun s hs => by unfold qdp; have := (hv.seg hs).l2; simp; omega)
 unfold hdN
 simp only [List.length_append, List.length_map, List.length_singleton]
 omega
end Go.Proofs.YtpgigbdefbeagaaGreatDoor
