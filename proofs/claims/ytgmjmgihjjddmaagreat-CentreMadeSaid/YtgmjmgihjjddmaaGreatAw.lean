/- The centre: the example. No condition. -/
import Derived.Test.YtgmjmgihjjddmaaGreatQu
namespace Go.Proofs.YtgmjmgihjjddmaaGreat
open Go Go.Sq
theorem qxz:qhB=some true:=by kernel_rfl
end Go.Proofs.YtgmjmgihjjddmaaGreat
