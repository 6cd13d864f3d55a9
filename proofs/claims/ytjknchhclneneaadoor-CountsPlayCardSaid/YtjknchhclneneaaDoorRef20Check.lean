/- spenceref20.Check. -/
import Derived.Test.YtjknchhclneneaaDoorRef20
import Derived.Test.YtjknchhclneneaaDoorPagePut
namespace Go.Proofs.YtjknchhclneneaaDoor
open Go.RowKit Go.Lib
section
theorem less_total : ∀ l m : List UInt8, (Op.bytesLess l m || l == m) = !Op.bytesLess m l := by
  intro l
  induction l with
  | nil => intro m; cases m <;> simp [Op.bytesLess]
  | cons x l ih =>
    intro m
    cases m with
    | nil => simp [Op.bytesLess]
    | cons y m =>
      have := ih m
      by_cases h : x = y
      · subst h; simpa [Op.bytesLess] using this
      · have h' : ¬ y = x := fun e => h e.symm
        rcases Nat.lt_or_gt_of_ne (fun e => h (UInt8.toNat_inj.1 e) : x.toNat ≠ y.toNat) with hl | hl
        · have h1 : x < y := UInt8.lt_iff_toNat_lt.2 hl
          have h2 : ¬ y < x := fun e => by have := UInt8.lt_iff_toNat_lt.1 e; omega
          simp [Op.bytesLess, h', h1, h2]
        · have h1 : y < x := UInt8.lt_iff_toNat_lt.2 hl
          have h2 : ¬ x < y := fun e => by have := UInt8.lt_iff_toNat_lt.1 e; omega
          simp [Op.bytesLess, h, h1, h2]
theorem leB_not (a b : ByteArray) : leB a b = !Op.bytesLess b.toList a.toList := less_total _ _
def RChkI (W : World) (pre : ByteArray) (l : List It) (i : Value) (w : World) : Prop :=
  ∃ j : Nat, i = .int .i64 (j : Int) ∧ j ≤ l.length ∧ firstErr (itF pre l) j = 0 ∧ Ext (fun _ => False) W w
theorem World.fresh (w : World) {W : World} (h : Ext (fun _ => False) W w) (x : Obj) (n : Nat) : Ext (fun _ => False) W ((w.alloc x).drewN n) := (h.alloc x).drewN n


end
end Go.Proofs.YtjknchhclneneaaDoor
