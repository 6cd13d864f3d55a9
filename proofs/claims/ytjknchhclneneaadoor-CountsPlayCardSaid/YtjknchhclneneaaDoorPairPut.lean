/- pairs.Put, spenceref14.Put. -/
import Derived.Test.YtjknchhclneneaaDoorPairCheck
import Derived.Test.YtjknchhclneneaaDoorPagePut
namespace Go.Proofs.YtjknchhclneneaaDoor
open Go.RowKit Go.Lib
section
/-- A pen behind pairs. -/
def prPuts (max : Int) (q : ByteArray × Int) (l : List It) : ByteArray × Int :=
  l.foldl (fun q x => blobPut (blobPut q.1 max q.2 32 x.1).1 max (blobPut q.1 max q.2 32 x.1).2 32768 x.2) q
theorem prPuts_snoc (max : Int) (q : ByteArray × Int) (l : List It) (x : It) : prPuts max q (l ++ [x]) = blobPut (blobPut (prPuts max q l).1 max (prPuts max q l).2 32 x.1).1 max (blobPut (prPuts max q l).1 max (prPuts max q l).2 32 x.1).2 32768 x.2 := by
  unfold prPuts; rw [List.foldl_append]; rfl
def pairsPut (t : ByteArray) (max err : Int) (l : List It) : ByteArray × Int :=
  if checkP l ≠ 0 then (t, if err = 0 then checkP l else err) else prPuts max (countPut t max err 8 l.length) l
structure PrOk (l : List It) : Prop where
  len : l.length ≤ 8
  at_ : ∀ j, j < l.length → (l.getD j (emp, emp)).1.size ≤ 32 ∧ (l.getD j (emp, emp)).1.size ≠ 0 ∧ (0 < j → leB (l.getD j (emp, emp)).1 (l.getD (j - 1) (emp, emp)).1 = false) ∧ (l.getD j (emp, emp)).2.size ≤ 32768
theorem checkP_ok {l : List It} (h : checkP l = 0) : PrOk l := by
  unfold checkP checkL at h
  by_cases c : 8 < l.length
  · rw [if_pos c] at h; exact absurd h (by decide)
  · rw [if_neg c] at h
    refine ⟨by omega, fun j hj => ?_⟩
    have hz := firstErr_zero h j hj
    unfold prF at hz
    split at hz
    · exact absurd hz (by decide)
    · next h1 =>
      split at hz
      · exact absurd hz (by decide)
      · next h2 =>
        split at hz
        · exact absurd hz (by decide)
        · next h3 =>
          split at hz
          · exact absurd hz (by decide)
          · next h4 => exact ⟨by omega, h2, fun h0 => Bool.eq_false_iff.2 (fun e => h3 ⟨h0, e⟩), by omega⟩
theorem checkP_of {l : List It} (h : PrOk l) : checkP l = 0 := by
  unfold checkP checkL
  rw [if_neg (by have := h.len; omega)]
  refine firstErr_of (fun j hj => ?_)
  obtain ⟨h1, h2, h3, h4⟩ := h.at_ j hj
  unfold prF
  rw [if_neg (by omega), if_neg h2, if_neg (fun c => by rw [h3 c.1] at c; exact absurd c.2 (by decide)), if_neg (by omega)]
theorem prPuts_size {l : List It} (h : PrOk l) (max : Int) (q : ByteArray × Int) : ∀ j, j ≤ l.length → (prPuts max q (l.take j)).1.size ≤ q.1.size + 40000 * j := by
  intro j
  induction j with
  | zero => intro _; rw [List.take_zero]; exact Nat.le_refl _
  | succ j ih =>
    intro hj
    obtain ⟨h1, _, _, h4⟩ := h.at_ j (by omega)
    rw [take_snoc l j (emp, emp) (by omega), prPuts_snoc]
    have z1 := blobPut_size (prPuts max q (l.take j)).1 max (prPuts max q (l.take j)).2 32 (l.getD j (emp, emp)).1
    have z2 := blobPut_size (blobPut (prPuts max q (l.take j)).1 max (prPuts max q (l.take j)).2 32 (l.getD j (emp, emp)).1).1 max (blobPut (prPuts max q (l.take j)).1 max (prPuts max q (l.take j)).2 32 (l.getD j (emp, emp)).1).2 32768 (l.getD j (emp, emp)).2
    have z3 := ih (by omega)
    omega
end
end Go.Proofs.YtjknchhclneneaaDoor
