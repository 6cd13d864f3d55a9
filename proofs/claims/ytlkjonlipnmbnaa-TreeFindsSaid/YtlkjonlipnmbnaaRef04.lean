/- The contracts of the document's own numbers of a width (spenceref04). -/
import Derived.Test.YtlkjonlipnmbnaaFixed
import Derived.Test.YtlkjonlipnmbnaaRef02
namespace Go.Proofs.Ytlkjonlipnmbnaa
open Go.RowKit Go.Lib

/-- The reference's bytes behind some rounds. -/
def RBRel (W : World) (wd n0 : Nat) (n s i : Value) (w : World) : Prop :=
  ∃ (k : Nat), k ≤ wd ∧ i = .int .i64 (k : Int) ∧ n = .int .u64 ((n0 / 256 ^ k : Nat) : Int) ∧ s = .string (beB k n0) ∧ Below W.heap.size W w

theorem beB_succ (k n : Nat) : ⟨#[UInt8.ofNat (n / 256 ^ k % 256)]⟩ ++ beB k n = beB (k + 1) n := by
  apply ByteArray.ext
  apply Array.ext'
  rw [ByteArray.data_append, Array.toList_append]
  show [UInt8.ofNat (n / 256 ^ k % 256)] ++ beL k n = beL (k + 1) n
  induction k generalizing n with
  | zero => simp [beL]
  | succ k ih =>
    show _ ++ (beL k (n / 256) ++ [UInt8.ofNat (n % 256)]) = beL (k + 1) (n / 256) ++ [UInt8.ofNat (n % 256)]
    rw [← List.append_assoc, ← ih (n / 256), Nat.div_div_eq_div_mul, Nat.pow_succ, Nat.mul_comm 256]

end Go.Proofs.Ytlkjonlipnmbnaa
