/- Networks that are made of numbers are valid. No condition. -/
import Derived.Test.YtikmdoopfpnbbaaLa2
import Derived.Test.YtikmdoopfpnbbaaNk4
namespace Go.Proofs.Ytikmdoopfpnbbaa
open Go Go.Sq
end Go.Proofs.Ytikmdoopfpnbbaa
