/- Reading a text and a longer one. -/
import Derived.Test.YtokjkpoegcnijaaFrameBack
namespace Go.Proofs.Ytokjkpoegcnijaa
open Go.RowKit Go.Lib
section
variable {x y : ByteArray}
theorem byteR_err (s : ByteArray) (a : Nat) (e : Int) (h : e ≠ 0) : byteR s a e = (0, a, e) := by unfold byteR; rw [if_pos h]
theorem bytesR_err (s : ByteArray) (a : Nat) (e n : Int) (h : e ≠ 0) : bytesR s a e n = (⟨#[]⟩, a, e) := by unfold bytesR; rw [if_pos h]
theorem byteR_end (s : ByteArray) (a : Nat) (h : s.size ≤ a) : byteR s a 0 = (0, a, 2) := by unfold byteR; rw [if_neg (by simp), if_neg (by omega)]
theorem ext_left (a b : Nat) (h : b ≤ x.size) : (x ++ y).extract a b = x.extract a b := by
  apply ByteArray.ext
  rw [ByteArray.data_extract, ByteArray.data_extract, ByteArray.data_append, Array.extract_append, show (b - x.data.size) = 0 from by show b - x.size = 0; omega]
  simp
theorem byteR_more {a : Nat} (e : Int) (ha : a ≤ x.size) : byteR (x ++ y) a e = byteR x a e ∨ (byteR x a e).2.2 = 2 := by
  by_cases he : e = 0
  · subst he
    by_cases hlt : a < x.size
    · left
      rw [byteR_yes x a hlt, byteR_yes _ a (by rw [ByteArray.size_append]; omega), bt_left _ _ _ hlt]
    · right; rw [byteR_end x a (by omega)]
  · left; rw [byteR_err _ _ _ he, byteR_err _ _ _ he]
theorem bytesR_more {a : Nat} (e n : Int) (_ : a ≤ x.size) : bytesR (x ++ y) a e n = bytesR x a e n ∨ (bytesR x a e n).2.2 = 2 := by
  by_cases he : e = 0
  · subst he
    by_cases hn : n < 0
    · left; unfold bytesR; rw [if_neg (by simp), if_pos hn, if_neg (by simp), if_pos hn]
    · by_cases hlt : n > (x.size : Int) - a
      · right; unfold bytesR; rw [if_neg (by simp), if_neg hn, if_pos hlt]
      · left
        unfold bytesR
        rw [if_neg (by simp), if_neg hn, if_neg (by rw [ByteArray.size_append]; omega), if_neg (by simp), if_neg hn, if_neg hlt, ext_left _ _ (by omega)]
  · left; rw [bytesR_err _ _ _ _ he, bytesR_err _ _ _ _ he]
theorem takeL_more (k : Nat) : ∀ (i a : Nat) (m : Int), a ≤ x.size → takeL (x ++ y) k i a m = takeL x k i a m ∨ (takeL x k i a m).2.2 = 2 := by
  induction k with
  | zero => intro i a m _; exact .inl rfl
  | succ k ih =>
    intro i a m ha
    rw [takeL_succ, takeL_succ]
    by_cases hlt : a < x.size
    · rw [if_pos hlt, if_pos (by rw [ByteArray.size_append]; omega), bt_left _ _ _ hlt]
      split
      · exact .inl rfl
      · split
        · exact .inl rfl
        · split
          · exact .inl rfl
          · exact ih _ _ _ hlt
    · right; rw [if_neg hlt]
theorem takeR_more {a : Nat} (e : Int) (ha : a ≤ x.size) : takeR (x ++ y) a e = takeR x a e ∨ (takeR x a e).2.2 = 2 := by
  unfold takeR
  split
  · exact takeL_more 10 0 a 0 ha
  · exact .inl rfl
theorem countR_more {a : Nat} (e : Int) (m : Nat) (ha : a ≤ x.size) : countR (x ++ y) a e m = countR x a e m ∨ (countR x a e m).2.2 = 2 := by
  rcases takeR_more (y := y) e ha with h | h
  · left; unfold countR; rw [h]
  · right; unfold countR; rw [if_pos (by rw [h]; decide)]; exact h
theorem blobR_more {a : Nat} (e : Int) (m : Nat) (ha : a ≤ x.size) : blobR (x ++ y) a e m = blobR x a e m ∨ (blobR x a e m).2.2 = 2 := by
  have hat := countR_at (s := x) (a := a) (e := e) m ha
  unfold blobR
  rcases countR_more (y := y) e m ha with h | h
  · rw [h]; exact bytesR_more _ _ hat
  · right; rw [h, bytesR_err _ _ _ _ (by decide)]
theorem blobR_err (s : ByteArray) (a m : Nat) : (blobR s a 2 m).2.2 = 2 := by
  unfold blobR
  have : (countR s a 2 m).2.2 = 2 := by unfold countR; rw [takeR_err _ _ _ (by decide)]; rfl
  rw [this, bytesR_err _ _ _ _ (by decide)]
end
end Go.Proofs.Ytokjkpoegcnijaa
