/- The contracts of the document's own cursor (spenceref01): the same answers as the cursor's. -/
import Derived.Test.YtjknchhclneneaaDoorCursor
namespace Go.Proofs.YtjknchhclneneaaDoor
open Go.RowKit

section
variable {w w' : World} {S : Nat → Prop} {g : Nat} {s : ByteArray} {at_ : Nat} {err : Int}
end

end Go.Proofs.YtjknchhclneneaaDoor
