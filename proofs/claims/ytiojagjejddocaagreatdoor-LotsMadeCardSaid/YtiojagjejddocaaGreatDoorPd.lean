/- Sorts at two element types. No condition. -/
import Derived.Test.YtiojagjejddocaaGreatDoorPdD
namespace Go.Proofs.YtiojagjejddocaaGreatDoor
open Go Go.Sq
namespace Papi_Nomination
abbrev E := List UInt8 × List UInt8 × List UInt8 × List UInt8 × Int × Int
abbrev CmpLt (cmp : E × E × Unit → Option Int) (lt : E → E → Bool) : Prop := PG.CmpLt cmp lt
theorem sort_ok {cmp : E × E × Unit → Option Int} {lt : E → E → Bool} (hc : CmpLt cmp lt) (ho : Sort.SWO lt) (l : List E) (hB : l.length ≤ 1099511627776) : ∃ T, slices_SortFunc_api_Nomination_api_Nomination cmp l = some T ∧ T.Perm l ∧ T.Pairwise fun x y => lt y x = false := PG.sort_ok hc ho l hB
end Papi_Nomination
namespace Plots_made
abbrev E := (List UInt8 × List UInt8 × List UInt8 × List UInt8 × Int × Int) × (Int × List UInt8 × Int × Int) × Int
abbrev CmpLt (cmp : E × E × Unit → Option Int) (lt : E → E → Bool) : Prop := PG.CmpLt cmp lt
theorem sort_ok {cmp : E × E × Unit → Option Int} {lt : E → E → Bool} (hc : CmpLt cmp lt) (ho : Sort.SWO lt) (l : List E) (hB : l.length ≤ 1099511627776) : ∃ T, slices_SortFunc_lots_made_lots_made cmp l = some T ∧ T.Perm l ∧ T.Pairwise fun x y => lt y x = false := PG.sort_ok hc ho l hB
end Plots_made
end Go.Proofs.YtiojagjejddocaaGreatDoor
