/- Networks of other nodes, or of other ports. No condition. -/
import Derived.Test.YtpgigbdefbeagaaGreatDoorNk5
namespace Go.Proofs.YtpgigbdefbeagaaGreatDoor
open Go Go.Sq
set_option maxRecDepth 100000 in
theorem qkc : qfy = some true := by kernel_rfl
theorem cut8 {i : Int} {n : Nat} (hi : 0 ≤ i ∧ i < 256) (hn : 0 < n) : ∃ a : Nat, Int.tmod (wi64 i) (n : Int) = (a : Int) ∧ a < n := by
 rw [wi (by omega), Int.tmod_eq_emod_of_nonneg hi.1]
 have h1 := Int.emod_nonneg i (show (n : Int) ≠ 0 by omega)
 have h2 := Int.emod_lt_of_pos i (show (0 : Int) < n by omega)
 exact ⟨(i % (n : Int)).toNat, by omega, by omega⟩
end Go.Proofs.YtpgigbdefbeagaaGreatDoor
