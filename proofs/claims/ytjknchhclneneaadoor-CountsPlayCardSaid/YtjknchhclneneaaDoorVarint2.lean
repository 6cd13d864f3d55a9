/- More of varint's contracts: Put, Size, Zag. -/
import Derived.Test.YtjknchhclneneaaDoorVarint
import Derived.Laws.BitsLemmas
import Derived.Lib.BitFns
namespace Go.Proofs.YtjknchhclneneaaDoor
open Go.RowKit Go.Lib

def zagR (u : Nat) : Int := if u % 2 = 0 then (u / 2 : Nat) else -((u / 2 : Nat) : Int) - 1
theorem wrap_i64_in (n : Int) (h0 : -9223372036854775808 ≤ n) (h1 : n ≤ 9223372036854775807) : IntKind.i64.wrap n = n := by rw [IntKind.wrap_i64]; omega
theorem xori_zero (y : Nat) (h1 : y < 9223372036854775808) : bits .xor .i64 (y : Int) 0 = y := by
  show IntKind.i64.wrap ((BitVec.ofInt 64 (y : Int) ^^^ BitVec.ofInt 64 ((0 : Nat) : Int)).toNat : Int) = _
  rw [BitVec.toNat_xor, BitVec.ofInt_natCast, BitVec.ofInt_natCast, BitVec.toNat_ofNat, BitVec.toNat_ofNat, Nat.mod_eq_of_lt (by omega), Nat.zero_mod, Nat.xor_zero, wrap_i64_in _ (by omega) (by omega)]
theorem xori_ones (y : Nat) (h1 : y < 9223372036854775808) : bits .xor .i64 (y : Int) (-1) = -(y : Int) - 1 := by
  show IntKind.i64.wrap ((BitVec.ofInt 64 (y : Int) ^^^ BitVec.ofInt 64 (-1)).toNat : Int) = _
  have e : BitVec.ofInt 64 (-1) = BitVec.allOnes 64 := by decide
  rw [e, BitVec.xor_allOnes, BitVec.toNat_not, BitVec.ofInt_natCast, BitVec.toNat_ofNat, Nat.mod_eq_of_lt (by omega), IntKind.wrap_i64]
  omega
theorem wr_0 : wrap64 (-wrap64 ((0 : Nat) : Int)) = 0 := by
  have h : wrap64 0 = 0 := IntWalk.wrap64_in 0 ⟨by decide, by decide⟩
  show wrap64 (-wrap64 0) = 0
  rw [h]; exact h
theorem wr_1 : wrap64 (-wrap64 ((1 : Nat) : Int)) = -1 := by
  have h : wrap64 1 = 1 := IntWalk.wrap64_in 1 ⟨by decide, by decide⟩
  show wrap64 (-wrap64 1) = -1
  rw [h]; exact IntWalk.wrap64_in (-1) ⟨by decide, by decide⟩
theorem zag_eq (u : Nat) (hu : u < 18446744073709551616) : bits .xor .i64 ((u : Int) / 2) (wrap64 (-wrap64 (bits .and .u64 (u : Int) 1))) = zagR u := by
  have e1 : bits .and .u64 (u : Int) 1 = ((u % 2 : Nat) : Int) := by
    have := (Go.bits_nat .u64 64 (by decide) (fun n h0 h1 => by rw [IntKind.wrap_u64]; omega) u 1 (by omega) (by decide)).1
    rw [show ((1 : Nat) : Int) = 1 from rfl] at this
    rw [this, show (1 : Nat) = 2 ^ 1 - 1 from rfl, Nat.and_two_pow_sub_one_eq_mod]
  have e2 : (u : Int) / 2 = ((u / 2 : Nat) : Int) := by omega
  rw [e1, e2]
  unfold zagR
  by_cases h : u % 2 = 0
  · rw [if_pos h, h, wr_0]
    exact xori_zero (u / 2) (by omega)
  · have h1 : u % 2 = 1 := by omega
    rw [if_neg h, h1, wr_1]
    exact xori_ones (u / 2) (by omega)
/-- The texts of numbers. -/
def encs (l : List Nat) : List ByteArray := l.map encR
theorem encL_length (k : Nat) : ∀ n, (encL k n).length ≤ k + 1 := by
  induction k with
  | zero => intro n; simp [encL]
  | succ k ih =>
    intro n
    rw [encL]
    split
    · rw [List.length_cons]; have := ih (n / 128); omega
    · simp
theorem encR_size (n : Nat) : (encR n).size ≤ 10 := by
  unfold encR; rw [size_lit]; exact encL_length 9 n
theorem penPuts_encs (max : Int) (l : List Nat) : ∀ (t : ByteArray) (e : Int), (penPuts t max e (encs l)).1.size ≤ t.size + l.length * 10 := by
  induction l with
  | nil => intro t e; simp [penPuts, encs]
  | cons n l ih =>
    intro t e
    have h1 := ih (penPut t max e (encR n)).1 (penPut t max e (encR n)).2
    have h2 := penPut_size t max e (encR n)
    have h3 : penPuts t max e (encs (n :: l)) = penPuts (penPut t max e (encR n)).1 max (penPut t max e (encR n)).2 (encs l) := rfl
    have h4 := encR_size n
    rw [h3, List.length_cons, Nat.succ_mul]
    omega
end Go.Proofs.YtjknchhclneneaaDoor
/- What was written as a number is read as that number again. -/
namespace Go.Proofs.YtjknchhclneneaaDoor
open Go.RowKit Go.Lib

theorem encL_pos (k n : Nat) : 0 < (encL k n).length := by
  cases k with
  | zero => simp [encL]
  | succ k => rw [encL]; split <;> simp

/-- A number's bytes, wherever they stand, are read as the number. -/
theorem takeL_dec (s : ByteArray) (k : Nat) : ∀ (i a m q : Nat), k + i = 10 → 0 < k → q < 2 ^ (64 - 7 * i) → (0 < i → 0 < q) →
    (∀ j, j < (encL (k - 1) q).length → bt s (a + j) = (((encL (k - 1) q).getD j 0).toNat : Int)) → a + (encL (k - 1) q).length ≤ s.size →
    takeL s k i a m = (((m + q * 128 ^ i : Nat) : Int), a + (encL (k - 1) q).length, 0) := by
  induction k with
  | zero => intro i a m q _ h; omega
  | succ k ih =>
    intro i a m q hki _ hq hpos hb hsz
    rw [Nat.add_sub_cancel] at hb hsz ⊢
    have hlt : a < s.size := by have := encL_pos k q; omega
    rw [takeL_succ, if_pos hlt]
    have hb0 := hb 0 (encL_pos k q)
    rw [Nat.add_zero] at hb0
    have q9 : i = 9 → q < 2 := fun e => by subst e; simpa using hq
    by_cases h1 : k ≠ 0 ∧ 127 < q
    · obtain ⟨k', rfl⟩ : ∃ k', k = k' + 1 := ⟨k - 1, by omega⟩
      have he : encL (k' + 1) q = UInt8.ofNat (q % 128 + 128) :: encL k' (q / 128) := by rw [encL, if_pos h1.2]
      rw [he] at hb hsz hb0 ⊢
      have hv : bt s a = ((q % 128 + 128 : Nat) : Int) := by
        rw [hb0]
        simp only [List.getD_cons_zero]
        rw [UInt8.toNat_ofNat']
        omega
      rw [if_neg (by rw [hv]; omega), if_neg (by rw [hv]; omega), if_neg (by rw [hv]; omega)]
      have em : ((m : Int) + bt s a % 128 * 128 ^ i) = ((m + (q % 128) * 128 ^ i : Nat) : Int) := by
        rw [hv, show (((q % 128 + 128 : Nat) : Int)) % 128 = ((q % 128 : Nat) : Int) from by omega, Int.natCast_add, Int.natCast_mul, Int.natCast_pow]; rfl
      rw [em]
      have hp : 2 ^ (64 - 7 * i) = 2 ^ (64 - 7 * (i + 1)) * 128 := by rw [show 64 - 7 * i = (64 - 7 * (i + 1)) + 7 from by omega, Nat.pow_add]
      rw [ih (i + 1) (a + 1) _ (q / 128) (by omega) (by omega) (by omega) (fun _ => by omega) ?_ ?_]
      · simp only [Nat.add_sub_cancel, List.length_cons]
        have this : q % 128 * 128 ^ i + q / 128 * 128 ^ (i + 1) = q * 128 ^ i := by
          rw [Nat.pow_succ, Nat.mul_comm (128 ^ i) 128, ← Nat.mul_assoc, ← Nat.add_mul]
          congr 1
          omega
        rw [Nat.add_assoc m, this, show a + 1 + (encL k' (q / 128)).length = a + ((encL k' (q / 128)).length + 1) from by omega]
      · intro j hj
        have := hb (j + 1) (by rw [List.length_cons]; simpa using hj)
        rw [show a + 1 + j = a + (j + 1) from by omega, this, List.getD_cons_succ]
        rfl
      · rw [List.length_cons] at hsz
        simp only [Nat.add_sub_cancel]
        omega
    · have hq7 : q < 128 := by
        by_cases e : k = 0
        · have := q9 (by omega); omega
        · have : ¬ 127 < q := fun h => h1 ⟨e, h⟩
          omega
      have he : encL k q = [UInt8.ofNat q] := by
        cases k with
        | zero => rfl
        | succ k => rw [encL, if_neg (by omega)]
      rw [he] at hb0 hsz ⊢
      have hv : bt s a = (q : Int) := by
        rw [hb0]
        simp only [List.getD_cons_zero]
        rw [UInt8.toNat_ofNat']
        omega
      rw [if_neg (by rw [hv]; intro h; have := q9 h.1; omega), if_neg (by rw [hv]; intro h; have := hpos h.2; omega), if_pos (by rw [hv]; omega)]
      have em : ((m : Int) + bt s a % 128 * 128 ^ i) = ((m + q * 128 ^ i : Nat) : Int) := by
        rw [hv, show (q : Int) % 128 = (q : Int) from by omega, Int.natCast_add, Int.natCast_mul, Int.natCast_pow]; rfl
      rw [em]
      rfl
theorem takeR_dec (s : ByteArray) (a q : Nat) (hq : q < 18446744073709551616) (hb : ∀ j, j < (encR q).size → bt s (a + j) = bt (encR q) j) (hz : a + (encR q).size ≤ s.size) :
    takeR s a 0 = ((q : Int), a + (encR q).size, 0) := by
  unfold takeR
  rw [if_pos rfl]
  have e : (encR q).size = (encL 9 q).length := size_lit _
  have h := takeL_dec s 10 0 a 0 q rfl (by decide) (by simpa using hq) (fun h => absurd h (by omega)) (fun j hj => by rw [hb j (by rw [e]; exact hj)]; rfl) (by rw [← e]; exact hz)
  rw [e]
  simpa using h
end Go.Proofs.YtjknchhclneneaaDoor
/- How many bytes a number has: by its length in bits; a greater one has no fewer. -/
namespace Go.Proofs.YtjknchhclneneaaDoor
open Go.RowKit Go.Lib

theorem bitLenAux_fuel (f : Nat) : ∀ x, x < 2 ^ f → bitLenAux (f + 1) x = bitLenAux f x := by
  induction f with
  | zero => intro x h; obtain rfl : x = 0 := by simpa using h
            rfl
  | succ f ih =>
    intro x h
    show (if x = 0 then 0 else 1 + bitLenAux (f + 1) (x / 2)) = (if x = 0 then 0 else 1 + bitLenAux f (x / 2))
    rw [ih (x / 2) (by rw [Nat.pow_succ] at h; omega)]
theorem bitLen_half (x : Nat) (h0 : x ≠ 0) (h : x < 18446744073709551616) : Lib.bitLen x = 1 + Lib.bitLen (x / 2) := by
  unfold Lib.bitLen
  show (if x = 0 then 0 else 1 + bitLenAux 63 (x / 2)) = _
  rw [if_neg h0, bitLenAux_fuel 63 (x / 2) (by omega)]
theorem bitLen_128 (x : Nat) (h0 : 127 < x) (h : x < 18446744073709551616) : Lib.bitLen x = 7 + Lib.bitLen (x / 128) := by
  rw [bitLen_half x (by omega) h, bitLen_half (x / 2) (by omega) (by omega), bitLen_half (x / 2 / 2) (by omega) (by omega), bitLen_half (x / 2 / 2 / 2) (by omega) (by omega),
    bitLen_half (x / 2 / 2 / 2 / 2) (by omega) (by omega), bitLen_half (x / 2 / 2 / 2 / 2 / 2) (by omega) (by omega), bitLen_half (x / 2 / 2 / 2 / 2 / 2 / 2) (by omega) (by omega),
    show x / 2 / 2 / 2 / 2 / 2 / 2 / 2 = x / 128 from by omega]
  omega
theorem bitLen_small (j x : Nat) (h : x < 2 ^ j) (hj : j ≤ 64) : Lib.bitLen x ≤ j := by
  induction j generalizing x with
  | zero => obtain rfl : x = 0 := by simpa using h
            exact Nat.le_refl _
  | succ j ih =>
    by_cases h0 : x = 0
    · subst h0; exact Nat.zero_le _
    · have hx : x < 18446744073709551616 := Nat.lt_of_lt_of_le h (show 2 ^ (j + 1) ≤ 2 ^ 64 from Nat.pow_le_pow_right (by decide) hj)
      rw [bitLen_half x h0 hx]
      have := ih (x / 2) (by rw [Nat.pow_succ] at h; omega) (by omega)
      omega
theorem bitLen_pos (x : Nat) (h0 : x ≠ 0) (h : x < 18446744073709551616) : 0 < Lib.bitLen x := by rw [bitLen_half x h0 h]; omega
theorem encL_size (k : Nat) : ∀ n, n < 128 ^ (k + 1) → n < 18446744073709551616 → (encL k n).length = max 1 ((Lib.bitLen n + 6) / 7) := by
  induction k with
  | zero =>
    intro n h h2
    have := bitLen_small 7 n (by simpa using h) (by decide)
    show 1 = _
    omega
  | succ k ih =>
    intro n h h2
    rw [encL]
    split
    · rename_i hn
      rw [List.length_cons, ih (n / 128) (by rw [Nat.pow_succ] at h; omega) (by omega), bitLen_128 n hn h2]
      have := bitLen_pos (n / 128) (by omega) (by omega)
      omega
    · have := bitLen_small 7 n (by omega) (by decide)
      show 1 = _
      omega
theorem encR_len (n : Nat) (h : n < 18446744073709551616) : (encR n).size = max 1 ((Lib.bitLen n + 6) / 7) := by
  unfold encR
  rw [size_lit]
  exact encL_size 9 n (by omega) h
theorem encL_mono (k : Nat) : ∀ n m, n ≤ m → (encL k n).length ≤ (encL k m).length := by
  induction k with
  | zero => intro n m _; exact Nat.le_refl _
  | succ k ih =>
    intro n m h
    rw [encL, encL]
    split
    · rw [if_pos (by omega), List.length_cons, List.length_cons]
      have := ih (n / 128) (m / 128) (by omega)
      omega
    · split
      · rw [List.length_cons]; simp
      · exact Nat.le_refl _
theorem encR_mono (n m : Nat) (h : n ≤ m) : (encR n).size ≤ (encR m).size := by
  unfold encR; rw [size_lit, size_lit]; exact encL_mono 9 n m h
end Go.Proofs.YtjknchhclneneaaDoor
