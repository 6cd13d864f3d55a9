/- How many bytes a number has: by its length in bits; a greater one has no fewer. -/
import Derived.Test.YtkicaiecmipieaaVarint2
import Derived.Lib.BitFns
namespace Go.Proofs.Ytkicaiecmipieaa
open Go.RowKit Go.Lib

theorem bitLenAux_fuel (f : Nat) : ∀ x, x < 2 ^ f → bitLenAux (f + 1) x = bitLenAux f x := by
  induction f with
  | zero => intro x h; obtain rfl : x = 0 := by simpa using h
            rfl
  | succ f ih =>
    intro x h
    show (if x = 0 then 0 else 1 + bitLenAux (f + 1) (x / 2)) = (if x = 0 then 0 else 1 + bitLenAux f (x / 2))
    rw [ih (x / 2) (by rw [Nat.pow_succ] at h; omega)]
theorem bitLen_half (x : Nat) (h0 : x ≠ 0) (h : x < 18446744073709551616) : Lib.bitLen x = 1 + Lib.bitLen (x / 2) := by
  unfold Lib.bitLen
  show (if x = 0 then 0 else 1 + bitLenAux 63 (x / 2)) = _
  rw [if_neg h0, bitLenAux_fuel 63 (x / 2) (by omega)]
theorem bitLen_128 (x : Nat) (h0 : 127 < x) (h : x < 18446744073709551616) : Lib.bitLen x = 7 + Lib.bitLen (x / 128) := by
  rw [bitLen_half x (by omega) h, bitLen_half (x / 2) (by omega) (by omega), bitLen_half (x / 2 / 2) (by omega) (by omega), bitLen_half (x / 2 / 2 / 2) (by omega) (by omega),
    bitLen_half (x / 2 / 2 / 2 / 2) (by omega) (by omega), bitLen_half (x / 2 / 2 / 2 / 2 / 2) (by omega) (by omega), bitLen_half (x / 2 / 2 / 2 / 2 / 2 / 2) (by omega) (by omega),
    show x / 2 / 2 / 2 / 2 / 2 / 2 / 2 = x / 128 from by omega]
  omega
theorem bitLen_small (j x : Nat) (h : x < 2 ^ j) (hj : j ≤ 64) : Lib.bitLen x ≤ j := by
  induction j generalizing x with
  | zero => obtain rfl : x = 0 := by simpa using h
            exact Nat.le_refl _
  | succ j ih =>
    by_cases h0 : x = 0
    · subst h0; exact Nat.zero_le _
    · have hx : x < 18446744073709551616 := Nat.lt_of_lt_of_le h (show 2 ^ (j + 1) ≤ 2 ^ 64 from Nat.pow_le_pow_right (by decide) hj)
      rw [bitLen_half x h0 hx]
      have := ih (x / 2) (by rw [Nat.pow_succ] at h; omega) (by omega)
      omega
theorem bitLen_pos (x : Nat) (h0 : x ≠ 0) (h : x < 18446744073709551616) : 0 < Lib.bitLen x := by rw [bitLen_half x h0 h]; omega
theorem encL_size (k : Nat) : ∀ n, n < 128 ^ (k + 1) → n < 18446744073709551616 → (encL k n).length = max 1 ((Lib.bitLen n + 6) / 7) := by
  induction k with
  | zero =>
    intro n h h2
    have := bitLen_small 7 n (by simpa using h) (by decide)
    show 1 = _
    omega
  | succ k ih =>
    intro n h h2
    rw [encL]
    split
    · rename_i hn
      rw [List.length_cons, ih (n / 128) (by rw [Nat.pow_succ] at h; omega) (by omega), bitLen_128 n hn h2]
      have := bitLen_pos (n / 128) (by omega) (by omega)
      omega
    · have := bitLen_small 7 n (by omega) (by decide)
      show 1 = _
      omega
theorem encR_len (n : Nat) (h : n < 18446744073709551616) : (encR n).size = max 1 ((Lib.bitLen n + 6) / 7) := by
  unfold encR
  rw [size_lit]
  exact encL_size 9 n (by omega) h
theorem encL_mono (k : Nat) : ∀ n m, n ≤ m → (encL k n).length ≤ (encL k m).length := by
  induction k with
  | zero => intro n m _; exact Nat.le_refl _
  | succ k ih =>
    intro n m h
    rw [encL, encL]
    split
    · rw [if_pos (by omega), List.length_cons, List.length_cons]
      have := ih (n / 128) (m / 128) (by omega)
      omega
    · split
      · rw [List.length_cons]; simp
      · exact Nat.le_refl _
theorem encR_mono (n m : Nat) (h : n ≤ m) : (encR n).size ≤ (encR m).size := by
  unfold encR; rw [size_lit, size_lit]; exact encL_mono 9 n m h
end Go.Proofs.Ytkicaiecmipieaa
