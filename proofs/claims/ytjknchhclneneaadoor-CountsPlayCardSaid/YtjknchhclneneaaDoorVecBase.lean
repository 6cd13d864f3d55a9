/- Vectors: Check, Count, Same, Great. -/
import Derived.Test.YtjknchhclneneaaDoorPairMath
import Derived.Test.YtjknchhclneneaaDoorPageItem
import Derived.Test.YtjknchhclneneaaDoorRef20Check
import Derived.Test.YtjknchhclneneaaDoorRef20Same
namespace Go.Proofs.YtjknchhclneneaaDoor
open Go.RowKit Go.Lib
section
def smallE (l : List En) (j : Nat) : Prop := ∀ i, i < j → (l.getD i (emp, 0)).1.size ≤ 100
/-- How many events of an actor are known. -/
def cntR (name : ByteArray) : List En → Int
  | [] => 0
  | x :: l => if x.1 = name then x.2 else cntR name l
theorem cntR_step {l : List En} {name : ByteArray} {j : Nat} (h : j < l.length) : cntR name (l.drop j) = if (l.getD j (emp, 0)).1 = name then (l.getD j (emp, 0)).2 else cntR name (l.drop (j + 1)) := by
  rw [List.drop_eq_getElem_cons h, cntR, getD_at l j _ h]
end
end Go.Proofs.YtjknchhclneneaaDoor
