/- pairs.Check, spenceref14.Check. -/
import Derived.Test.YtlkjonlipnmbnaaPairMath
import Derived.Test.YtlkjonlipnmbnaaPageItem
import Derived.Test.YtlkjonlipnmbnaaRef20Check
namespace Go.Proofs.Ytlkjonlipnmbnaa
open Go.RowKit Go.Lib
section
end
end Go.Proofs.Ytlkjonlipnmbnaa
