/- The contracts of the document's own pen (spenceref02): the same texts and errors as the pen's. -/
import Derived.Test.YtjknchhclneneaaDoorPen
namespace Go.Proofs.YtjknchhclneneaaDoor
open Go.RowKit

section
variable {w w' : World} {S : Nat → Prop} {g : Nat} {t : ByteArray} {max err : Int}
end

end Go.Proofs.YtjknchhclneneaaDoor
