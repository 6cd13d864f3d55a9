/- The contracts of blob's writers and of the document's (spenceref06). -/
import Derived.Test.YtjknchhclneneaaDoorVarint2
import Derived.Test.YtjknchhclneneaaDoorRef02
import Derived.Test.YtjknchhclneneaaDoorRef03b
namespace Go.Proofs.YtjknchhclneneaaDoor
open Go.RowKit Go.Lib

/-- A pen behind a blob. -/
def blobPut (t : ByteArray) (max err : Int) (m : Nat) (s : ByteArray) : ByteArray × Int :=
  if m < s.size then (t, if err = 0 then 3 else err) else penPuts t max err [encR s.size, s]
/-- A pen behind a count. -/
def countPut (t : ByteArray) (max err : Int) (m n : Nat) : ByteArray × Int :=
  if m < n then (t, if err = 0 then 3 else err) else penPut t max err (encR n)
/-- A pen behind a flag. -/
def flagPut (t : ByteArray) (max err : Int) (b : Bool) : ByteArray × Int := penPut t max err (one (if b = true then 1 else 0))

end Go.Proofs.YtjknchhclneneaaDoor
