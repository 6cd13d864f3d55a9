/- The cursor's contracts: what each of its functions does, on a cursor in memory and on none. -/
import Derived.Test.YtjknchhclneneaaDoorCore
namespace Go.Proofs.YtjknchhclneneaaDoor
open Go.RowKit

section
variable {w w' : World} {S : Nat → Prop} {g : Nat} {s : ByteArray} {at_ : Nat} {err : Int}
end

/-- What Bytes answers, where the cursor stands behind it, and its error. -/
def bytesR (s : ByteArray) (at_ : Nat) (err n : Int) : ByteArray × Nat × Int :=
  if err ≠ 0 then (⟨#[]⟩, at_, err) else if n < 0 then (⟨#[]⟩, at_, 1) else if n > (s.size : Int) - at_ then (⟨#[]⟩, at_, 2) else (s.extract at_ (at_ + n.toNat), at_ + n.toNat, 0)

theorem bytesR_at {s : ByteArray} {at_ : Nat} {err n : Int} (h : at_ ≤ s.size) : (bytesR s at_ err n).2.1 ≤ s.size := by
  unfold bytesR
  split
  · exact h
  · split
    · exact h
    · split
      · exact h
      · simp only; omega

attribute [local go_sem high] run_max_i run_min_i

/-- How many bytes Ahead tells. -/
def aheadN (s : ByteArray) (at_ : Nat) (n : Int) : Nat := (max 0 (min n ((s.size : Int) - at_))).toNat

/-- What Byte answers, where the cursor stands behind it, and its error. -/
def byteR (s : ByteArray) (at_ : Nat) (err : Int) : Int × Nat × Int :=
  if err ≠ 0 then (0, at_, err) else if at_ < s.size then (bt s at_, at_ + 1, 0) else (0, at_, 2)
theorem byteR_at {s : ByteArray} {at_ : Nat} {err : Int} (h : at_ ≤ s.size) : (byteR s at_ err).2.1 ≤ s.size := by
  unfold byteR
  split
  · exact h
  · split
    · simp only; omega
    · exact h

theorem byteR_range (s : ByteArray) (at_ : Nat) (err : Int) : 0 ≤ (byteR s at_ err).1 ∧ (byteR s at_ err).1 < 256 := by
  unfold byteR
  split
  · simp
  · split
    · exact bt_range s at_
    · simp

/-- What Since answers. -/
def sinceR (s : ByteArray) (at_ : Nat) (from_ : Int) : ByteArray := if from_ < 0 ∨ from_ > at_ then ⟨#[]⟩ else s.extract from_.toNat at_

/-- What End answers. -/
def endR (s : ByteArray) (at_ : Nat) (err : Int) : Int := if err = 0 ∧ at_ < s.size then 8 else err

end Go.Proofs.YtjknchhclneneaaDoor
