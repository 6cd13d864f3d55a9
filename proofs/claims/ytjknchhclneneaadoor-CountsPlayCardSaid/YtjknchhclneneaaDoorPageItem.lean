/- page.item, and what it calls. -/
import Derived.Test.YtjknchhclneneaaDoorPageMath
import Derived.Test.YtjknchhclneneaaDoorDigest2
namespace Go.Proofs.YtjknchhclneneaaDoor
open Go.RowKit Go.Lib
section
theorem leB_of {a b : ByteArray} {x y : Bool} (h1 : Op.bytesLess a.toList b.toList = x) (h2 : (a.toList == b.toList) = y) : leB a b = (x || y) := by unfold leB; rw [h1, h2]


end
end Go.Proofs.YtjknchhclneneaaDoor
