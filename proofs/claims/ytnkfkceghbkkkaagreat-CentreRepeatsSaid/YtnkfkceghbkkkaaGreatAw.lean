/- The centre: the example. No condition. -/
import Derived.Test.YtnkfkceghbkkkaaGreatSqY
import Derived.Test.YtnkfkceghbkkkaaGreatLe
namespace Go.Proofs.YtnkfkceghbkkkaaGreat
open Go Go.Sq
set_option linter.unusedVariables false
set_option maxRecDepth 100000 in
theorem awake_true : law41_awake = some true := le_law41_awake _ (by kernel_rfl)
end Go.Proofs.YtnkfkceghbkkkaaGreat
