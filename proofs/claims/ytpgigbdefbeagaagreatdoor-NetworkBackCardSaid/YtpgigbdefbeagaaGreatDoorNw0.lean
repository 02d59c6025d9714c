/- Networks of other nodes, or of other ports. No condition. -/
import Derived.Test.YtpgigbdefbeagaaGreatDoorNk5
namespace Go.Proofs.YtpgigbdefbeagaaGreatDoor
open Go Go.Sq
set_option maxRecDepth 100000 in
theorem qnP : qgU = some true := by kernel_rfl
end Go.Proofs.YtpgigbdefbeagaaGreatDoor
