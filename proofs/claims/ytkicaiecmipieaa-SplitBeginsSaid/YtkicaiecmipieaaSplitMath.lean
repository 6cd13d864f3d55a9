/- The frames of a text, one behind the other (plain). -/
import Derived.Test.YtkicaiecmipieaaLists
import Derived.Test.YtkicaiecmipieaaLaw07A
namespace Go.Proofs.Ytkicaiecmipieaa
open Go.RowKit Go.Lib

abbrev Fr := Int × Int × ByteArray
def frC (f : Fr) : List Value := [.int .u8 f.1, .int .u8 f.2.1, .string f.2.2]
theorem frC_len (f : Fr) : (frC f).length = 3 := rfl
def ixC (i : Nat) : List Value := [.int .i64 (i : Int)]
theorem ixC_len (i : Nat) : (ixC i).length = 1 := rfl

/-- The frames from a place on, with their places; what is left, and why. -/
def allL (s : ByteArray) : Nat → Nat → List (Nat × Fr) × Int × Int
  | 0, _ => ([], 0, 0)
  | k + 1, a =>
    if a < s.size then
      (if (frD (s.extract a s.size)).2.2 = 2 then ([], (s.size : Int) - a, 0)
       else if (frD (s.extract a s.size)).2.2 ≠ 0 then ([], (s.size : Int) - a, (frD (s.extract a s.size)).2.2)
       else ((a, (frD (s.extract a s.size)).1) :: (allL s k (a + (frD (s.extract a s.size)).2.1)).1, (allL s k (a + (frD (s.extract a s.size)).2.1)).2))
    else ([], 0, 0)
def allR (s : ByteArray) : List (Nat × Fr) × Int × Int := allL s (s.size + 1) 0

theorem frD_ok {s p : ByteArray} {v kd : Int} {n : Nat} (h : frD s = ((v, kd, p), n, 0)) :
    (v = 1 ∨ v = 2) ∧ p.size ≤ 65536 ∧ 0 ≤ kd ∧ kd < 256 ∧ n ≤ s.size ∧ 8 ≤ n ∧ frameEnc v kd p = (s.extract 0 n, 0) ∧ p.size ≤ n := by
  unfold frD at h
  split at h
  · obtain ⟨h1, h2, h3, h4, h5, h6⟩ := frT_back h
    have hz := frameEnc_size v kd p (by rw [h6])
    rw [h6] at hz
    dsimp only at hz
    rw [ByteArray.size_extract] at hz
    exact ⟨h1, h2, h3, h4, h5, by omega, h6, by omega⟩
  · rename_i hne
    simp only [Prod.mk.injEq] at h
    exact absurd h.2.2 hne

theorem allL_stop {s : ByteArray} {k a : Nat} (h : s.size ≤ a) : allL s k a = ([], 0, 0) := by
  cases k with
  | zero => rfl
  | succ k => unfold allL; rw [if_neg (by omega)]
theorem allL_short {s : ByteArray} {k a : Nat} {f : Fr} {n : Nat} (h : a < s.size) (hd : frD (s.extract a s.size) = (f, n, 2)) : allL s (k + 1) a = ([], (s.size : Int) - a, 0) := by
  unfold allL
  rw [if_pos h, hd, if_pos rfl]
theorem allL_bad {s : ByteArray} {k a : Nat} {f : Fr} {n : Nat} {e : Int} (h : a < s.size) (hd : frD (s.extract a s.size) = (f, n, e)) (h2 : e ≠ 2) (h0 : e ≠ 0) : allL s (k + 1) a = ([], (s.size : Int) - a, e) := by
  unfold allL
  rw [if_pos h, hd, if_neg h2, if_pos h0]
theorem allL_more {s : ByteArray} {k a : Nat} {f : Fr} {n : Nat} (h : a < s.size) (hd : frD (s.extract a s.size) = (f, n, 0)) : allL s (k + 1) a = ((a, f) :: (allL s k (a + n)).1, (allL s k (a + n)).2) := by
  rw [allL]
  rw [if_pos h, hd, if_neg (by simp), if_neg (by simp)]
end Go.Proofs.Ytkicaiecmipieaa
