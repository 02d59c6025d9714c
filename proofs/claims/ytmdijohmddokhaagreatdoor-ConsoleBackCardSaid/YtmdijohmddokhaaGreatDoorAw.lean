/- The console: the example. No condition. -/
import Derived.Test.YtmdijohmddokhaaGreatDoorQw
namespace Go.Proofs.YtmdijohmddokhaaGreatDoor
open Go Go.Sq
theorem qyR:qim=some true:=by kernel_rfl
end Go.Proofs.YtmdijohmddokhaaGreatDoor
