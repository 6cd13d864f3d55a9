/- What was written as a number is read as that number again. -/
import Derived.Test.YtkicaiecmipieaaVarint2
namespace Go.Proofs.Ytkicaiecmipieaa
open Go.RowKit Go.Lib

theorem encL_pos (k n : Nat) : 0 < (encL k n).length := by
  cases k with
  | zero => simp [encL]
  | succ k => rw [encL]; split <;> simp

/-- A number's bytes, wherever they stand, are read as the number. -/
theorem takeL_dec (s : ByteArray) (k : Nat) : ∀ (i a m q : Nat), k + i = 10 → 0 < k → q < 2 ^ (64 - 7 * i) → (0 < i → 0 < q) →
    (∀ j, j < (encL (k - 1) q).length → bt s (a + j) = (((encL (k - 1) q).getD j 0).toNat : Int)) → a + (encL (k - 1) q).length ≤ s.size →
    takeL s k i a m = (((m + q * 128 ^ i : Nat) : Int), a + (encL (k - 1) q).length, 0) := by
  induction k with
  | zero => intro i a m q _ h; omega
  | succ k ih =>
    intro i a m q hki _ hq hpos hb hsz
    rw [Nat.add_sub_cancel] at hb hsz ⊢
    have hlt : a < s.size := by have := encL_pos k q; omega
    rw [takeL_succ, if_pos hlt]
    have hb0 := hb 0 (encL_pos k q)
    rw [Nat.add_zero] at hb0
    have q9 : i = 9 → q < 2 := fun e => by subst e; simpa using hq
    by_cases h1 : k ≠ 0 ∧ 127 < q
    · obtain ⟨k', rfl⟩ : ∃ k', k = k' + 1 := ⟨k - 1, by omega⟩
      have he : encL (k' + 1) q = UInt8.ofNat (q % 128 + 128) :: encL k' (q / 128) := by rw [encL, if_pos h1.2]
      rw [he] at hb hsz hb0 ⊢
      have hv : bt s a = ((q % 128 + 128 : Nat) : Int) := by
        rw [hb0]
        simp only [List.getD_cons_zero]
        rw [UInt8.toNat_ofNat']
        omega
      rw [if_neg (by rw [hv]; omega), if_neg (by rw [hv]; omega), if_neg (by rw [hv]; omega)]
      have em : ((m : Int) + bt s a % 128 * 128 ^ i) = ((m + (q % 128) * 128 ^ i : Nat) : Int) := by
        rw [hv, show (((q % 128 + 128 : Nat) : Int)) % 128 = ((q % 128 : Nat) : Int) from by omega, Int.natCast_add, Int.natCast_mul, Int.natCast_pow]; rfl
      rw [em]
      have hp : 2 ^ (64 - 7 * i) = 2 ^ (64 - 7 * (i + 1)) * 128 := by rw [show 64 - 7 * i = (64 - 7 * (i + 1)) + 7 from by omega, Nat.pow_add]
      rw [ih (i + 1) (a + 1) _ (q / 128) (by omega) (by omega) (by omega) (fun _ => by omega) ?_ ?_]
      · simp only [Nat.add_sub_cancel, List.length_cons]
        have this : q % 128 * 128 ^ i + q / 128 * 128 ^ (i + 1) = q * 128 ^ i := by
          rw [Nat.pow_succ, Nat.mul_comm (128 ^ i) 128, ← Nat.mul_assoc, ← Nat.add_mul]
          congr 1
          omega
        rw [Nat.add_assoc m, this, show a + 1 + (encL k' (q / 128)).length = a + ((encL k' (q / 128)).length + 1) from by omega]
      · intro j hj
        have := hb (j + 1) (by rw [List.length_cons]; simpa using hj)
        rw [show a + 1 + j = a + (j + 1) from by omega, this, List.getD_cons_succ]
        rfl
      · rw [List.length_cons] at hsz
        simp only [Nat.add_sub_cancel]
        omega
    · have hq7 : q < 128 := by
        by_cases e : k = 0
        · have := q9 (by omega); omega
        · have : ¬ 127 < q := fun h => h1 ⟨e, h⟩
          omega
      have he : encL k q = [UInt8.ofNat q] := by
        cases k with
        | zero => rfl
        | succ k => rw [encL, if_neg (by omega)]
      rw [he] at hb0 hsz ⊢
      have hv : bt s a = (q : Int) := by
        rw [hb0]
        simp only [List.getD_cons_zero]
        rw [UInt8.toNat_ofNat']
        omega
      rw [if_neg (by rw [hv]; intro h; have := q9 h.1; omega), if_neg (by rw [hv]; intro h; have := hpos h.2; omega), if_pos (by rw [hv]; omega)]
      have em : ((m : Int) + bt s a % 128 * 128 ^ i) = ((m + q * 128 ^ i : Nat) : Int) := by
        rw [hv, show (q : Int) % 128 = (q : Int) from by omega, Int.natCast_add, Int.natCast_mul, Int.natCast_pow]; rfl
      rw [em]
      rfl
theorem takeR_dec (s : ByteArray) (a q : Nat) (hq : q < 18446744073709551616) (hb : ∀ j, j < (encR q).size → bt s (a + j) = bt (encR q) j) (hz : a + (encR q).size ≤ s.size) :
    takeR s a 0 = ((q : Int), a + (encR q).size, 0) := by
  unfold takeR
  rw [if_pos rfl]
  have e : (encR q).size = (encL 9 q).length := size_lit _
  have h := takeL_dec s 10 0 a 0 q rfl (by decide) (by simpa using hq) (fun h => absurd h (by omega)) (fun j hj => by rw [hb j (by rw [e]; exact hj)]; rfl) (by rw [← e]; exact hz)
  rw [e]
  simpa using h
end Go.Proofs.Ytkicaiecmipieaa
