/- The centre: the example. No condition. -/
import Derived.Test.YtnkfkceghbkkkaaGreatQu
namespace Go.Proofs.YtnkfkceghbkkkaaGreat
open Go Go.Sq
theorem quP : qgy = some true := by kernel_rfl
end Go.Proofs.YtnkfkceghbkkkaaGreat
