/- The contracts of varint's functions. -/
import Derived.Test.YtjknchhclneneaaDoorCursor
import Derived.Test.YtjknchhclneneaaDoorPen
namespace Go.Proofs.YtjknchhclneneaaDoor
open Go.RowKit Go.Lib

/-- Reading a number byte by byte: k rounds are left, i are done, n was gathered: the number, the place, the error. -/
def takeL (s : ByteArray) : Nat → Nat → Nat → Int → Int × Nat × Int
  | 0, _, at_, _ => (0, at_, 0)
  | k + 1, i, at_, n =>
    if at_ < s.size then
      if i = 9 ∧ 1 < bt s at_ then (0, at_, 5)
      else if bt s at_ = 0 ∧ 0 < i then (0, at_, 4)
      else if bt s at_ < 128 then (n + bt s at_ % 128 * 128 ^ i, at_ + 1, 0)
      else takeL s k (i + 1) (at_ + 1) (n + bt s at_ % 128 * 128 ^ i)
    else (0, at_, 2)
theorem takeL_succ (s : ByteArray) (k i at_ : Nat) (n : Int) : takeL s (k + 1) i at_ n =
    if at_ < s.size then
      if i = 9 ∧ 1 < bt s at_ then (0, at_, 5)
      else if bt s at_ = 0 ∧ 0 < i then (0, at_, 4)
      else if bt s at_ < 128 then (n + bt s at_ % 128 * 128 ^ i, at_ + 1, 0)
      else takeL s k (i + 1) (at_ + 1) (n + bt s at_ % 128 * 128 ^ i)
    else (0, at_, 2) := rfl
/-- What Take answers, where the cursor stands behind it, and its error. -/
def takeR (s : ByteArray) (at_ : Nat) (err : Int) : Int × Nat × Int := if err = 0 then takeL s 10 0 at_ 0 else (0, at_, err)

theorem take_or (m k : Nat) (c : Int) (h0 : 0 ≤ c) (h1 : c < 256) (hk : k ≤ 9) (h9 : k = 9 → c ≤ 1) (hm : m < 128 ^ k) :
    bits .or .u64 (m : Int) (IntKind.u64.wrap (IntKind.u64.wrap (bits .and .u8 c 127) * 2 ^ (7 * k))) = m + c % 128 * 128 ^ k := by
  have e1 : bits .and .u8 c 127 = c % 128 := bits_mask .u8 8 (by decide) wraps_u8 7 (by decide) c h0 h1
  have hp : (2 : Nat) ^ (7 * k) = 128 ^ k := by rw [Nat.pow_mul]
  obtain ⟨d, hd⟩ : ∃ d : Nat, c % 128 = d := ⟨(c % 128).toNat, by omega⟩
  have hd1 : d < 128 := by omega
  have hd9 : k = 9 → d ≤ 1 := fun e => by have := h9 e; omega
  have hle : d * 128 ^ k < 18446744073709551616 := by
    by_cases e : k = 9
    · subst e
      have := hd9 rfl
      have h2 : d * 128 ^ 9 ≤ 1 * 128 ^ 9 := Nat.mul_le_mul_right _ this
      omega
    · have h3 : 128 ^ k ≤ 128 ^ 8 := Nat.pow_le_pow_right (by decide) (by omega)
      have h2 : d * 128 ^ k ≤ 127 * 128 ^ 8 := Nat.mul_le_mul (by omega) h3
      omega
  have hm64 : m < 18446744073709551616 := by
    have h3 : 128 ^ k ≤ 128 ^ 9 := Nat.pow_le_pow_right (by decide) hk
    omega
  rw [e1, hd, IntKind.wrap_u64, IntKind.wrap_u64, show ((d : Int) % 18446744073709551616) = d from by omega]
  have e2 : ((d : Int) * 2 ^ (7 * k)) % 18446744073709551616 = ((d * 128 ^ k : Nat) : Int) := by
    have : ((d : Int) * 2 ^ (7 * k)) = ((d * 128 ^ k : Nat) : Int) := by
      rw [Int.natCast_mul, Int.natCast_pow, show ((2 : Int) ^ (7 * k)) = ((2 ^ (7 * k) : Nat) : Int) from by simp, hp]
      simp
    rw [this]
    omega
  rw [e2]
  have e3 : bits .or .u64 (m : Int) ((d * 128 ^ k : Nat) : Int) = ((m ||| d * 128 ^ k : Nat) : Int) := by
    show IntKind.u64.wrap ((BitVec.ofInt 64 (m : Int) ||| BitVec.ofInt 64 ((d * 128 ^ k : Nat) : Int)).toNat : Int) = _
    rw [BitVec.toNat_or, BitVec.ofInt_natCast, BitVec.ofInt_natCast, BitVec.toNat_ofNat, BitVec.toNat_ofNat, Nat.mod_eq_of_lt (by simpa using hm64), Nat.mod_eq_of_lt (by simpa using hle), IntKind.wrap_u64]
    have : m ||| d * 128 ^ k < 2 ^ 64 := Nat.or_lt_two_pow (by simpa using hm64) (by simpa using hle)
    omega
  rw [e3, Nat.or_comm, ← hp, ← Nat.shiftLeft_eq, ← Nat.shiftLeft_add_eq_or_of_lt (by rw [hp]; exact hm), Nat.shiftLeft_eq, hp]
  simp
  omega
theorem take_lt (m k : Nat) (c : Int) (hm : m < 128 ^ k) : m + (c % 128).toNat * 128 ^ k < 128 ^ (k + 1) := by
  have h1 : (c % 128).toNat ≤ 127 := by omega
  have h2 := Nat.mul_le_mul_right (128 ^ k) h1
  rw [Nat.pow_succ]
  omega
/-- A number's bytes. -/
def encL : Nat → Nat → List UInt8
  | 0, n => [UInt8.ofNat n]
  | k + 1, n => if 127 < n then UInt8.ofNat (n % 128 + 128) :: encL k (n / 128) else [UInt8.ofNat n]
def encR (n : Nat) : ByteArray := ⟨(encL 9 n).toArray⟩

theorem nat_or128 (y : Nat) (hy : y < 128) : 128 ||| y = 128 + y := by
  have := Nat.shiftLeft_add_eq_or_of_lt (i := 7) (b := y) hy 1
  simpa using this.symm
theorem or128 (m : Nat) : bits .or .u8 ((m : Int) % 256) 128 = ((m % 128 + 128 : Nat) : Int) := by
  obtain ⟨x, hx⟩ : ∃ x, m % 256 = x := ⟨_, rfl⟩
  have hx' : ((m : Int) % 256) = (x : Int) := by omega
  have hx2 : x < 256 := by omega
  have h1 : x ||| 128 = m % 128 + 128 := by
    by_cases h : x < 128
    · rw [Nat.or_comm, nat_or128 x h]; omega
    · have e : x = 128 + (x - 128) := by omega
      rw [e, ← nat_or128 (x - 128) (by omega), Nat.or_comm 128, Nat.or_assoc, Nat.or_self, Nat.or_comm, nat_or128 _ (by omega)]; omega
  rw [hx']
  show IntKind.u8.wrap ((BitVec.ofInt 8 (x : Int) ||| BitVec.ofInt 8 ((128 : Nat) : Int)).toNat : Int) = _
  rw [BitVec.toNat_or, BitVec.ofInt_natCast, BitVec.ofInt_natCast, BitVec.toNat_ofNat, BitVec.toNat_ofNat, Nat.mod_eq_of_lt (by omega), Nat.mod_eq_of_lt (by decide), IntKind.wrap_u8, h1]
  omega
theorem strCells_snoc (xs : ByteArray) (x : Nat) (hx : x < 256) : strCells (xs ++ ⟨#[UInt8.ofNat x]⟩) = strCells xs ++ [.int .u8 (x : Int)] := by
  rw [strCells_append]
  congr 1
  have : x % 256 = x := Nat.mod_eq_of_lt hx
  simp [strCells, this]

/-- Behind some rounds: what is left to write of the number. -/
def BytesRel (W : World) (n0 : Nat) (n out : Value) (w : World) : Prop :=
  ∃ (k j m : Nat) (xs : ByteArray), k + j = 9 ∧ n = .int .u64 (m : Int) ∧ m < 2 ^ (64 - 7 * k) ∧ w.ownsRow W.heap.size 5 1 out xs.size (strCells xs) ∧ xs.size = k ∧
    encL 9 n0 = xs.data.toList ++ encL j m ∧ Below W.heap.size W w

/-- What Decode answers. -/
def decR (s : ByteArray) : Int × Int :=
  if endR s (takeR s 0 0).2.1 (takeR s 0 0).2.2 = 0 then ((takeR s 0 0).1, 0) else (0, endR s (takeR s 0 0).2.1 (takeR s 0 0).2.2)
theorem takeL_at (s : ByteArray) (k : Nat) : ∀ (i a : Nat) (n : Int), a ≤ s.size → (takeL s k i a n).2.1 ≤ s.size := by
  induction k with
  | zero => intro i a n h; exact h
  | succ k ih =>
    intro i a n h
    rw [takeL_succ]
    split
    · split
      · exact h
      · split
        · exact h
        · split
          · show a + 1 ≤ s.size; omega
          · exact ih _ _ _ (by omega)
    · exact h
theorem takeR_at {s : ByteArray} {a : Nat} {err : Int} (h : a ≤ s.size) : (takeR s a err).2.1 ≤ s.size := by
  unfold takeR
  split
  · exact takeL_at s 10 0 a 0 h
  · exact h

end Go.Proofs.YtjknchhclneneaaDoor
