/- pairs.Check, spenceref14.Check. -/
import Derived.Test.YtjknchhclneneaaDoorPairMath
import Derived.Test.YtjknchhclneneaaDoorPageItem
import Derived.Test.YtjknchhclneneaaDoorRef20Check
namespace Go.Proofs.YtjknchhclneneaaDoor
open Go.RowKit Go.Lib
section
end
end Go.Proofs.YtjknchhclneneaaDoor
