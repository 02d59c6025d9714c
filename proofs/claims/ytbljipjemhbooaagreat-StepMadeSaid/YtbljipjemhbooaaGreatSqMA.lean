/- The second engine, part MA: maps that a call makes: entries are looked up, written, deleted, counted. No condition. -/
import Derived.Test.YtbljipjemhbooaaGreatSqM
namespace Go.Sq
open Go Go.RowKit Go.MapKept

section
variable {P : Program} {w0 : World} {M : Mod} {N : Nat} {F0 : Nat → Prop} {ops : Array Oper} {st : St} {Γ : List TI} {rty : TypeId}
def evMapV (Γ : List TI) (st : St) (op : Op) : Option VR := none
theorem evMapV_ok (hΓ : Tys P Γ) {op : Op} {r : VR} (h : evMapV Γ st op = some r) : VOk P w0 M N st op rty r := by
 cases h
def evMapM (Γ : List TI) (st : St) (N : Nat) (dst : Option Nat) (op : Op) : Option MR := none
theorem evMapM_ok (hΓ : Tys P Γ) {dst : Option Nat} {op : Op} {r : MR} (h : evMapM Γ st N dst op = some r) (hg : r.g = true) : MOk P w0 M N F0 ops st dst op rty r := by
 cases h
end
end Go.Sq
