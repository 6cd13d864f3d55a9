/- The plain law of marks: each number's step is one to one. -/
import Derived.WalkKit
namespace Go.Proofs.YtjknchhclneneaaDoor

/-- A byte mixed into a number. -/
def mixB (n b : Nat) : Nat := ((n ^^^ b) * 1099511628211) % 18446744073709551616
def mixL (n : Nat) (l : List UInt8) : Nat := l.foldl (fun n b => mixB n b.toNat) n
theorem mixB_lt (n b : Nat) : mixB n b < 18446744073709551616 := Nat.mod_lt _ (by decide)
theorem mixL_lt (l : List UInt8) {n : Nat} (h : n < 18446744073709551616) : mixL n l < 18446744073709551616 := by
  induction l generalizing n with
  | nil => exact h
  | cons b l ih => exact ih (mixB_lt _ _)
theorem mixL_append (n : Nat) (l l' : List UInt8) : mixL n (l ++ l') = mixL (mixL n l) l' := List.foldl_append ..
theorem mixL_snoc (n : Nat) (l : List UInt8) (c : UInt8) : mixL n (l ++ [c]) = mixB (mixL n l) c.toNat := by
  unfold mixL
  rw [List.foldl_append, List.foldl_cons, List.foldl_nil]
theorem xor64_lt {n b : Nat} (hn : n < 18446744073709551616) (hb : b < 256) : n ^^^ b < 18446744073709551616 := Nat.xor_lt_two_pow (n := 64) hn (by omega)
theorem prime_inj {a b : Nat} (ha : a < 18446744073709551616) (hb : b < 18446744073709551616) (h : a * 1099511628211 % 18446744073709551616 = b * 1099511628211 % 18446744073709551616) : a = b := by
  have h1 : (a * 1099511628211 % 18446744073709551616 * 14886173955864302971) % 18446744073709551616 = (b * 1099511628211 % 18446744073709551616 * 14886173955864302971) % 18446744073709551616 := by rw [h]
  have e : ∀ x : Nat, x < 18446744073709551616 → (x * 1099511628211 % 18446744073709551616 * 14886173955864302971) % 18446744073709551616 = x := by
    intro x hx
    rw [Nat.mod_mul_mod, Nat.mul_assoc]
    rw [show 1099511628211 * 14886173955864302971 = 1 + 18446744073709551616 * (1099511628211 * 14886173955864302971 / 18446744073709551616) from by decide]
    rw [Nat.mul_add, Nat.mul_one, Nat.mul_left_comm, Nat.add_mul_mod_self_left]
    exact Nat.mod_eq_of_lt hx
  rwa [e a ha, e b hb] at h1
theorem xorr_cancel {a b c : Nat} (h : a ^^^ c = b ^^^ c) : a = b := by
  have := congrArg (· ^^^ c) h
  simpa [Nat.xor_assoc] using this
theorem mixB_inj {n n' : Nat} {b b' : UInt8} (hn : n < 18446744073709551616) (hn' : n' < 18446744073709551616) (h : mixB n b.toNat = mixB n' b'.toNat) : n ^^^ b.toNat = n' ^^^ b'.toNat :=
  prime_inj (xor64_lt hn b.toNat_lt) (xor64_lt hn' b'.toNat_lt) h
theorem mixL_inj (l : List UInt8) {n n' : Nat} (hn : n < 18446744073709551616) (hn' : n' < 18446744073709551616) (h : mixL n l = mixL n' l) : n = n' := by
  induction l generalizing n n' with
  | nil => exact h
  | cons b l ih => exact xorr_cancel (mixB_inj hn hn' (ih (mixB_lt _ _) (mixB_lt _ _) h))
theorem mixL_spoil (l l' : List UInt8) {b b' : UInt8} (hb : b ≠ b') {n : Nat} (hn : n < 18446744073709551616) : mixL n (l ++ b :: l') ≠ mixL n (l ++ b' :: l') := by
  intro h
  rw [mixL_append, mixL_append] at h
  have h1 : mixB (mixL n l) b.toNat = mixB (mixL n l) b'.toNat := mixL_inj l' (mixB_lt _ _) (mixB_lt _ _) h
  have h2 := mixB_inj (mixL_lt l hn) (mixL_lt l hn) h1
  rw [Nat.xor_comm _ b.toNat, Nat.xor_comm _ b'.toNat] at h2
  exact hb (UInt8.toNat_inj.1 (xorr_cancel h2))
end Go.Proofs.YtjknchhclneneaaDoor
