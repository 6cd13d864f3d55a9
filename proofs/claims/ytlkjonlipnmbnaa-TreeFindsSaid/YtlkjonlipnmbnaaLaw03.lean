/- The walks of the laws on numbers, and what they lean on. -/
import Derived.Test.YtlkjonlipnmbnaaRef03
namespace Go.Proofs.Ytlkjonlipnmbnaa
open Go.RowKit Go.Lib

/-- n, turned about. -/
def zigR (n : Int) : Int := if 0 ≤ n then 2 * n else -2 * n - 1

theorem xor_zero (x : Int) (h0 : 0 ≤ x) (h1 : x < 18446744073709551616) : bits .xor .u64 x 0 = x := by
  obtain ⟨y, rfl⟩ := Int.eq_ofNat_of_zero_le h0
  show IntKind.u64.wrap ((BitVec.ofInt 64 (y : Int) ^^^ BitVec.ofInt 64 ((0 : Nat) : Int)).toNat : Int) = _
  rw [BitVec.toNat_xor, BitVec.ofInt_natCast, BitVec.ofInt_natCast, BitVec.toNat_ofNat, BitVec.toNat_ofNat, Nat.mod_eq_of_lt (by omega), Nat.zero_mod, Nat.xor_zero, IntKind.wrap_u64]
  omega
theorem xor_ones (x : Int) (h0 : 0 ≤ x) (h1 : x < 18446744073709551616) : bits .xor .u64 x 18446744073709551615 = 18446744073709551615 - x := by
  obtain ⟨y, rfl⟩ := Int.eq_ofNat_of_zero_le h0
  show IntKind.u64.wrap ((BitVec.ofInt 64 (y : Int) ^^^ BitVec.ofInt 64 ((18446744073709551615 : Nat) : Int)).toNat : Int) = _
  have e : BitVec.ofInt 64 ((18446744073709551615 : Nat) : Int) = BitVec.allOnes 64 := by decide
  rw [e, BitVec.xor_allOnes, BitVec.toNat_not, BitVec.ofInt_natCast, BitVec.toNat_ofNat, Nat.mod_eq_of_lt (by omega), IntKind.wrap_u64]
  omega
theorem zig_pos (n : Int) (h : 0 ≤ n) (h1 : n ≤ 9223372036854775807) : bits .xor .u64 (n * 2) (n / 9223372036854775808) = 2 * n := by
  rw [show n / 9223372036854775808 = 0 from by omega, xor_zero _ (by omega) (by omega)]
  omega
theorem zig_neg (n : Int) (h : n < 0) (h0 : -9223372036854775808 ≤ n) : bits .xor .u64 (IntKind.u64.wrap (IntKind.u64.wrap n * 2)) (IntKind.u64.wrap (n / 9223372036854775808)) = -2 * n - 1 := by
  rw [show n / 9223372036854775808 = -1 from by omega, IntKind.wrap_u64, IntKind.wrap_u64, IntKind.wrap_u64, show (-1 : Int) % 18446744073709551616 = 18446744073709551615 from by decide, show n % 18446744073709551616 * 2 % 18446744073709551616 = 2 * n + 18446744073709551616 from by omega, xor_ones _ (by omega) (by omega)]
  omega

theorem bt_list (s : ByteArray) (a : Nat) (h : a < s.size) : s.data.toList[a]'(by rw [Array.length_toList]; exact h) = UInt8.ofNat (bt s a).toNat := by
  unfold bt
  rw [List.getD_eq_getElem?_getD, List.getElem?_eq_getElem (by rw [Array.length_toList]; exact h)]
  simp
theorem ext_list (s : ByteArray) (a b : Nat) : (s.extract a b).data.toList = (s.data.toList.take b).drop a := by
  rw [ByteArray.data_extract, Array.toList_extract]
  simp [List.drop_take]
theorem ext_cons (s : ByteArray) (a b : Nat) (h : a < b) (hb : b ≤ s.size) : (s.extract a b).data.toList = UInt8.ofNat (bt s a).toNat :: (s.extract (a + 1) b).data.toList := by
  rw [ext_list, ext_list, ← bt_list s a (by omega)]
  have hl : a < (s.data.toList.take b).length := by rw [List.length_take, Array.length_toList]; have : s.data.size = s.size := rfl; omega
  rw [List.drop_eq_getElem_cons hl]
  congr 1
  rw [List.getElem_take]

/-- What was read is written so again. -/
theorem takeL_enc (s : ByteArray) (k : Nat) : ∀ (i a a' m : Nat) (n : Int), k + i = 10 → takeL s k i a m = (n, a', 0) → 0 < k →
    ∃ q : Nat, n = ((m + q * 128 ^ i : Nat) : Int) ∧ a < a' ∧ a' ≤ s.size ∧ encL (k - 1) q = (s.extract a a').data.toList ∧ (0 < i → 0 < q) ∧ q < 2 ^ (64 - 7 * i) := by
  induction k with
  | zero => intro i a a' m n _ _ h; omega
  | succ k ih =>
    intro i a a' m n hki ht _
    rw [takeL_succ] at ht
    by_cases hlt : a < s.size
    · rw [if_pos hlt] at ht
      have hbr := bt_range s a
      by_cases h5 : i = 9 ∧ 1 < bt s a
      · rw [if_pos h5] at ht; simp at ht
      · rw [if_neg h5] at ht
        by_cases h4 : bt s a = 0 ∧ 0 < i
        · rw [if_pos h4] at ht; simp at ht
        · rw [if_neg h4] at ht
          by_cases h1 : bt s a < 128
          · rw [if_pos h1] at ht
            simp only [Prod.mk.injEq] at ht
            obtain ⟨rfl, rfl, _⟩ := ht
            refine ⟨(bt s a).toNat, ?_, by omega, by omega, ?_, fun hi => by omega, ?_⟩
            · rw [Int.natCast_add, Int.natCast_mul, Int.toNat_of_nonneg hbr.1, Int.natCast_pow, show bt s a % 128 = bt s a from by omega]; rfl
            · rw [ext_cons s a (a + 1) (by omega) (by omega), ext_none]
              show encL k (bt s a).toNat = [UInt8.ofNat (bt s a).toNat]
              cases k with
              | zero => rfl
              | succ k => rw [encL, if_neg (by omega)]
            · by_cases e9 : i = 9
              · subst e9
                have : ¬ 1 < bt s a := fun h => h5 ⟨rfl, h⟩
                show (bt s a).toNat < 2
                omega
              · have : 2 ^ 8 ≤ 2 ^ (64 - 7 * i) := Nat.pow_le_pow_right (by decide) (by omega)
                omega
          · rw [if_neg h1] at ht
            have hk : 0 < k := by
              rcases Nat.eq_zero_or_pos k with h | h
              · subst h; exact absurd ⟨by omega, by omega⟩ h5
              · exact h
            have em : ((m : Int) + bt s a % 128 * 128 ^ i) = ((m + (bt s a % 128).toNat * 128 ^ i : Nat) : Int) := by
              rw [Int.natCast_add, Int.natCast_mul, Int.toNat_of_nonneg (by omega), Int.natCast_pow]; rfl
            rw [em] at ht
            obtain ⟨q, hq1, hq2, hq3, hq4, hq5, hq6⟩ := ih (i + 1) (a + 1) a' _ n (by omega) ht hk
            have hq0 := hq5 (by omega)
            refine ⟨(bt s a % 128).toNat + q * 128, ?_, by omega, hq3, ?_, fun _ => by omega, ?_⟩
            · rw [hq1, Nat.pow_succ, Nat.add_mul, Nat.mul_assoc q 128, Nat.mul_comm 128 (128 ^ i), Nat.add_assoc]
            · rw [ext_cons s a a' (by omega) hq3, ← hq4]
              obtain ⟨k', rfl⟩ : ∃ k', k = k' + 1 := ⟨k - 1, by omega⟩
              show encL (k' + 1) _ = _ :: encL k' q
              rw [encL, if_pos (by omega)]
              congr 2
              · congr 1
                omega
              · omega
            · have : 2 ^ (64 - 7 * i) = 2 ^ (64 - 7 * (i + 1)) * 128 := by rw [show 64 - 7 * i = (64 - 7 * (i + 1)) + 7 from by omega, Nat.pow_add]
              omega
    · rw [if_neg hlt] at ht; simp at ht

/-- A text that is read as a number is that number's bytes. -/
theorem decR_enc (s : ByteArray) (n : Int) (h : decR s = (n, 0)) : ∃ q : Nat, n = q ∧ q < 18446744073709551616 ∧ encR q = s := by
  unfold decR takeR at h
  rw [if_pos rfl] at h
  obtain ⟨q1, q2, q3, hq⟩ : ∃ q1 q2 q3, takeL s 10 0 0 0 = (q1, q2, q3) := ⟨_, _, _, rfl⟩
  rw [hq] at h
  dsimp only at h
  split at h
  · rename_i he
    simp only [Prod.mk.injEq, and_true] at h
    subst h
    have h3 : q3 = 0 ∧ ¬ q2 < s.size := by
      unfold endR at he
      split at he
      · omega
      · rename_i hn
        exact ⟨he, fun hl => hn ⟨he, hl⟩⟩
    obtain ⟨rfl, h4⟩ := h3
    obtain ⟨q, e1, _, e3, e4, _, e6⟩ := takeL_enc s 10 0 0 q2 0 q1 rfl hq (by decide)
    refine ⟨q, by simpa using e1, by simpa using e6, ?_⟩
    unfold encR
    show (⟨(encL 9 q).toArray⟩ : ByteArray) = s
    rw [e4, show q2 = s.size from by omega, ext_all]
  · rename_i he
    simp only [Prod.mk.injEq] at h
    exact absurd h.2 he

end Go.Proofs.Ytlkjonlipnmbnaa
