/- spenceref20.Same, Great. -/
import Derived.Test.YtjknchhclneneaaDoorPageMath
namespace Go.Proofs.YtjknchhclneneaaDoor
open Go.RowKit Go.Lib
section
def sameR (g q : PgV) : Bool := decide (g.pre = q.pre ∧ g.leaf = q.leaf ∧ g.sl = q.sl ∧ g.it = q.it)
theorem sameR_self (g : PgV) : sameR g g = true := by unfold sameR; simp
theorem toList_beq (a b : ByteArray) : (a.toList == b.toList) = decide (a = b) := by
  rw [Bool.eq_iff_iff]
  simp only [beq_iff_eq, decide_eq_true_eq, ByteArray.toList_eq]
  exact ⟨fun h => ByteArray.ext (Array.toList_inj.1 h), fun h => by rw [h]⟩
theorem list_like {α : Type} {l m : List α} {d : α} (hl : l.length = m.length) (h : ∀ k, k < l.length → l.getD k d = m.getD k d) : l = m := by
  refine List.ext_getElem hl (fun i h1 h2 => ?_)
  have := h i h1
  rwa [getD_at l i d h1, getD_at m i d h2] at this
def SmRel {α : Type} (d : α) (W : World) (l m : List α) (i : Value) (w : World) : Prop :=
  ∃ j n : Nat, i = .int .i64 (j : Int) ∧ j ≤ l.length ∧ (∀ k, k < j → l.getD k d = m.getD k d) ∧ w = W.drewN n


theorem int_beq (a b : Int) : (a == b) = decide (a = b) := by rw [Bool.eq_iff_iff]; simp
end
end Go.Proofs.YtjknchhclneneaaDoor
