/- page.Check. -/
import Derived.Test.YtjknchhclneneaaDoorPageItem
import Derived.Deep.RegionHeld
namespace Go.Proofs.YtjknchhclneneaaDoor
open Go.RowKit Go.Lib
section
def ChkI (W : World) (pre : ByteArray) (l : List It) (last i : Value) (w : World) : Prop :=
  ∃ j : Nat, i = .int .i64 (j : Int) ∧ last = .string (lastK l j) ∧ j ≤ l.length ∧ firstErr (itF pre l) j = 0 ∧ Ext (fun _ => False) W w
def ChkS (W : World) (l : List Sl) (i : Value) (w : World) : Prop :=
  ∃ j : Nat, i = .int .i64 (j : Int) ∧ j ≤ l.length ∧ firstErr (slF l) j = 0 ∧ Ext (fun _ => False) W w
theorem lastK_succ (l : List It) (j : Nat) : lastK l (j + 1) = (l.getD j (emp, emp)).1 := by unfold lastK; rw [if_neg (by omega), Nat.add_sub_cancel]


end
end Go.Proofs.YtjknchhclneneaaDoor
