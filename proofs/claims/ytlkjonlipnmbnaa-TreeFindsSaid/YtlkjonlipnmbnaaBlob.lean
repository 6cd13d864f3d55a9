/- The contracts of blob's readers and of the document's (spenceref06). -/
import Derived.Test.YtlkjonlipnmbnaaRef03
namespace Go.Proofs.Ytlkjonlipnmbnaa
open Go.RowKit Go.Lib

theorem takeL_nn (s : ByteArray) (k : Nat) : ∀ (i a : Nat) (n : Int), 0 ≤ n → 0 ≤ (takeL s k i a n).1 := by
  induction k with
  | zero => intro i a n _; exact Int.le_refl 0
  | succ k ih =>
    intro i a n hn
    rw [takeL_succ]
    have hb := bt_range s a
    have hp : 0 ≤ bt s a % 128 * 128 ^ i := Int.mul_nonneg (by omega) (Int.pow_nonneg (by decide))
    split
    · split
      · exact Int.le_refl 0
      · split
        · exact Int.le_refl 0
        · split
          · show 0 ≤ n + bt s a % 128 * 128 ^ i
            omega
          · exact ih _ _ _ (by omega)
    · exact Int.le_refl 0
theorem takeR_nn (s : ByteArray) (a : Nat) (e : Int) : 0 ≤ (takeR s a e).1 := by
  unfold takeR
  split
  · exact takeL_nn _ _ _ _ _ (Int.le_refl 0)
  · exact Int.le_refl 0
theorem takeR_err (s : ByteArray) (a : Nat) (e : Int) (h : e ≠ 0) : takeR s a e = (0, a, e) := by unfold takeR; rw [if_neg h]

/-- A count that is read: its value, the place, the error. -/
def countR (s : ByteArray) (a : Nat) (e : Int) (m : Nat) : Nat × Nat × Int :=
  if (takeR s a e).2.2 ≠ 0 then (0, (takeR s a e).2.1, (takeR s a e).2.2) else if (takeR s a e).1 > m then (0, (takeR s a e).2.1, 3) else ((takeR s a e).1.toNat, (takeR s a e).2.1, 0)
theorem countR_at {s : ByteArray} {a : Nat} {e : Int} (m : Nat) (h : a ≤ s.size) : (countR s a e m).2.1 ≤ s.size := by
  have := takeR_at (s := s) (a := a) (err := e) h
  unfold countR
  split
  · exact this
  · split <;> exact this
theorem countR_le (s : ByteArray) (a : Nat) (e : Int) (m : Nat) : (countR s a e m).1 ≤ m := by
  have := takeR_nn s a e
  unfold countR
  split
  · exact Nat.zero_le _
  · split
    · exact Nat.zero_le _
    · show (takeR s a e).1.toNat ≤ m
      omega
/-- A blob that is read. -/
def blobR (s : ByteArray) (a : Nat) (e : Int) (m : Nat) : ByteArray × Nat × Int := bytesR s (countR s a e m).2.1 (countR s a e m).2.2 (countR s a e m).1
theorem blobR_at {s : ByteArray} {a : Nat} {e : Int} (m : Nat) (h : a ≤ s.size) : (blobR s a e m).2.1 ≤ s.size := bytesR_at (countR_at m h)
/-- A flag that is read. -/
def flagR (s : ByteArray) (a : Nat) (e : Int) : Bool × Nat × Int :=
  (decide ((byteR s a e).1 = 1), (byteR s a e).2.1, if (byteR s a e).1 > 1 then 13 else (byteR s a e).2.2)
theorem flagR_at {s : ByteArray} {a : Nat} {e : Int} (h : a ≤ s.size) : (flagR s a e).2.1 ≤ s.size := byteR_at h

end Go.Proofs.Ytlkjonlipnmbnaa
