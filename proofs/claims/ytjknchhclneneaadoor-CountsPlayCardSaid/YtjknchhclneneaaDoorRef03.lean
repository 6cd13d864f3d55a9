/- The contracts of the document's own numbers (spenceref03). -/
import Derived.Test.YtjknchhclneneaaDoorVarint
import Derived.Test.YtjknchhclneneaaDoorRef01
namespace Go.Proofs.YtjknchhclneneaaDoor
open Go.RowKit Go.Lib

theorem rtake_add (m p k : Nat) (c : Int) (hp : p = 128 ^ k) (h0 : 0 ≤ c) (h1 : c < 256) (hk : k ≤ 9) (h9 : k = 9 → c ≤ 1) (hm : m < p) :
    IntKind.u64.wrap ((m : Int) + IntKind.u64.wrap (c % 128 * (p : Int))) = m + c % 128 * 128 ^ k := by
  subst hp
  obtain ⟨d, hd⟩ : ∃ d : Nat, c % 128 = d := ⟨(c % 128).toNat, by omega⟩
  have hd1 : d < 128 := by omega
  have hle : m + d * 128 ^ k < 18446744073709551616 := by
    by_cases e : k = 9
    · subst e
      have := h9 rfl
      have h2 : d * 128 ^ 9 ≤ 1 * 128 ^ 9 := Nat.mul_le_mul_right _ (by omega)
      omega
    · have h3 : 128 ^ k ≤ 128 ^ 8 := Nat.pow_le_pow_right (by decide) (by omega)
      have h2 : d * 128 ^ k ≤ 127 * 128 ^ 8 := Nat.mul_le_mul (by omega) h3
      omega
  rw [hd]
  have e : ((d : Int) * ((128 ^ k : Nat) : Int)) = ((d * 128 ^ k : Nat) : Int) := by rw [Int.natCast_mul]
  have e2 : ((128 : Int) ^ k) = ((128 ^ k : Nat) : Int) := by simp
  rw [e2, e, IntKind.wrap_u64, IntKind.wrap_u64]
  omega
theorem rtake_wt (p k : Nat) (hp : p = 128 ^ k) (hk : k ≤ 8) : IntKind.u64.wrap ((p : Int) * 128) = ((128 ^ (k + 1) : Nat) : Int) := by
  have h3 : 128 ^ k ≤ 128 ^ 8 := Nat.pow_le_pow_right (by decide) (by omega)
  rw [Nat.pow_succ, IntKind.wrap_u64, hp]
  omega

end Go.Proofs.YtjknchhclneneaaDoor
