/- The plain law of the sums: the table's step is the document's, and it is one to one. -/
import Derived.WalkKit
namespace Go.Proofs.YtjknchhclneneaaDoor

def poly : Nat := 3988292384
def half1 (n : Nat) : Nat := if n % 2 = 1 then (n / 2) ^^^ poly else n / 2
def halfN : Nat → Nat → Nat
  | 0, n => n
  | k + 1, n => half1 (halfN k n)
def halve (n : Nat) : Nat := halfN 8 n
/-- A byte put to a sum (the document's). -/
def crcPut (s b : Nat) : Nat := halve (s ^^^ b)
def crcFold (s : Nat) (l : List UInt8) : Nat := l.foldl (fun s b => crcPut s b.toNat) s
def cpl (n : Nat) : Nat := 4294967295 - n
def crcMore (s : Nat) (l : List ByteArray) : Nat := cpl (l.foldl (fun s t => crcFold s t.data.toList) (cpl s))
def crcSum (t : ByteArray) : Nat := cpl (crcFold 4294967295 t.data.toList)

theorem half1_lt {n : Nat} (h : n < 4294967296) : half1 n < 4294967296 := by
  unfold half1
  split
  · exact Nat.xor_lt_two_pow (n := 32) (by omega) (by decide)
  · omega
theorem halfN_lt (k : Nat) {n : Nat} (h : n < 4294967296) : halfN k n < 4294967296 := by
  induction k with
  | zero => exact h
  | succ k ih => exact half1_lt ih
theorem halve_lt {n : Nat} (h : n < 4294967296) : halve n < 4294967296 := halfN_lt 8 h
theorem crcPut_lt {s : Nat} (b : UInt8) (h : s < 4294967296) : crcPut s b.toNat < 4294967296 :=
  halve_lt (Nat.xor_lt_two_pow (n := 32) h (by have := b.toNat_lt; omega))
theorem crcFold_lt (l : List UInt8) {s : Nat} (h : s < 4294967296) : crcFold s l < 4294967296 := by
  induction l generalizing s with
  | nil => exact h
  | cons b l ih => exact ih (crcPut_lt b h)

theorem half1_xor (a b : Nat) : half1 (a ^^^ b) = half1 a ^^^ half1 b := by
  have h1 : (a ^^^ b) / 2 = a / 2 ^^^ b / 2 := Nat.xor_div_two
  have h2 : (a ^^^ b) % 2 = 1 ↔ ¬ (a % 2 = 1 ↔ b % 2 = 1) := Nat.xor_mod_two_eq_one
  unfold half1
  rw [h1]
  by_cases ha : a % 2 = 1 <;> by_cases hb : b % 2 = 1 <;> simp only [ha, hb, h2, if_true, if_false, iff_self, not_true, not_false_iff, iff_true, iff_false]
  · rw [Nat.xor_assoc, Nat.xor_comm poly, Nat.xor_assoc, Nat.xor_self, Nat.xor_zero]
  · rw [Nat.xor_assoc, Nat.xor_assoc, Nat.xor_comm poly]
  · rw [Nat.xor_assoc]
theorem halfN_xor (k a b : Nat) : halfN k (a ^^^ b) = halfN k a ^^^ halfN k b := by
  induction k with
  | zero => rfl
  | succ k ih => show half1 _ = half1 _ ^^^ half1 _; rw [ih, half1_xor]
theorem half1_two (y : Nat) : half1 (2 * y) = y := by unfold half1; rw [if_neg (by omega)]; omega
theorem halve_shift (y : Nat) : halve (256 * y) = y := by
  have e : 256 * y = 2 * (2 * (2 * (2 * (2 * (2 * (2 * (2 * y))))))) := by omega
  rw [e]
  simp only [halve, halfN, half1_two]
theorem split8 (x : Nat) : x = (x % 256) ^^^ (256 * (x / 256)) := by
  have h := Nat.two_pow_add_eq_or_of_lt (i := 8) (b := x % 256) (by omega) (x / 256)
  have h2 : (x % 256) ^^^ (2 ^ 8 * (x / 256)) = 2 ^ 8 * (x / 256) ||| x % 256 := by
    apply Nat.eq_of_testBit_eq
    intro i
    rw [Nat.testBit_xor, Nat.testBit_or, Nat.testBit_two_pow_mul, show (256 : Nat) = 2 ^ 8 from rfl, Nat.testBit_mod_two_pow]
    by_cases hi : i < 8
    · simp [hi, show ¬ 8 ≤ i by omega]
    · simp [hi, show 8 ≤ i by omega]
  show x = _ ^^^ (2 ^ 8 * _)
  rw [h2, ← h]
  omega
/-- The table's step: the low byte by the table, the rest beside it. -/
theorem halve_table (x : Nat) : halve x = halve (x % 256) ^^^ (x / 256) := by
  conv => lhs; rw [split8 x]
  rw [halve, halfN_xor]
  show halve _ ^^^ halve _ = _
  rw [halve_shift]
theorem crcPut_table (s b : Nat) (hb : b < 256) : crcPut s b = halve (s % 256 ^^^ b) ^^^ (s / 256) := by
  unfold crcPut
  rw [halve_table]
  have h1 : (s ^^^ b) % 256 = s % 256 ^^^ b := by
    have := Nat.xor_mod_two_pow (a := s) (b := b) (n := 8)
    rw [show (2 : Nat) ^ 8 = 256 from rfl] at this
    rw [this, Nat.mod_eq_of_lt hb]
  have h2 : (s ^^^ b) / 256 = s / 256 := by
    have := Nat.xor_div_two_pow (a := s) (b := b) (n := 8)
    rw [show (2 : Nat) ^ 8 = 256 from rfl] at this
    rw [this, Nat.div_eq_of_lt hb, Nat.xor_zero]
  rw [h1, h2]

theorem xor_right_cancel {a b c : Nat} (h : a ^^^ c = b ^^^ c) : a = b := by
  have := congrArg (· ^^^ c) h
  simpa [Nat.xor_assoc] using this
theorem xor_left_cancel {a b c : Nat} (h : c ^^^ a = c ^^^ b) : a = b := xor_right_cancel (c := c) (by rw [Nat.xor_comm a, Nat.xor_comm b]; exact h)
theorem half1_inj {a b : Nat} (ha : a < 4294967296) (hb : b < 4294967296) (h : half1 a = half1 b) : a = b := by
  have top : ∀ x y : Nat, x < 2147483648 → y < 2147483648 → ¬ x ^^^ poly = y := fun x y hx hy e => by
    have h1 := congrArg (·.testBit 31) e
    simp only [Nat.testBit_xor] at h1
    rw [Nat.testBit_lt_two_pow (x := x) (i := 31) (by omega), Nat.testBit_lt_two_pow (x := y) (i := 31) (by omega)] at h1
    revert h1; decide
  unfold half1 at h
  split at h <;> split at h
  · have := xor_right_cancel h
    omega
  · exact absurd h (top _ _ (by omega) (by omega))
  · exact absurd h.symm (top _ _ (by omega) (by omega))
  · omega
theorem halfN_inj (k : Nat) {a b : Nat} (ha : a < 4294967296) (hb : b < 4294967296) (h : halfN k a = halfN k b) : a = b := by
  induction k with
  | zero => exact h
  | succ k ih => exact ih (half1_inj (halfN_lt k ha) (halfN_lt k hb) h)
theorem crcPut_inj {s s' : Nat} {b b' : UInt8} (hs : s < 4294967296) (hs' : s' < 4294967296) (h : crcPut s b.toNat = crcPut s' b'.toNat) : s ^^^ b.toNat = s' ^^^ b'.toNat :=
  halfN_inj 8 (Nat.xor_lt_two_pow (n := 32) hs (by have := b.toNat_lt; omega)) (Nat.xor_lt_two_pow (n := 32) hs' (by have := b'.toNat_lt; omega)) h
theorem crcFold_inj (l : List UInt8) {s s' : Nat} (hs : s < 4294967296) (hs' : s' < 4294967296) (h : crcFold s l = crcFold s' l) : s = s' := by
  induction l generalizing s s' with
  | nil => exact h
  | cons b l ih => exact xor_right_cancel (crcPut_inj hs hs' (ih (crcPut_lt b hs) (crcPut_lt b hs') h))
theorem crcFold_append (s : Nat) (l l' : List UInt8) : crcFold s (l ++ l') = crcFold (crcFold s l) l' := List.foldl_append ..
/-- One byte another one: another sum. -/
theorem crcFold_spoil (l l' : List UInt8) {b b' : UInt8} (hb : b ≠ b') {s : Nat} (hs : s < 4294967296) : crcFold s (l ++ b :: l') ≠ crcFold s (l ++ b' :: l') := by
  intro h
  rw [crcFold_append, crcFold_append] at h
  have h1 : crcPut (crcFold s l) b.toNat = crcPut (crcFold s l) b'.toNat := crcFold_inj l' (crcPut_lt b (crcFold_lt l hs)) (crcPut_lt b' (crcFold_lt l hs)) h
  exact hb (UInt8.toNat_inj.1 (xor_left_cancel (crcPut_inj (crcFold_lt l hs) (crcFold_lt l hs) h1)))
theorem cpl_cpl {n : Nat} (h : n < 4294967296) : cpl (cpl n) = n := by unfold cpl; omega
theorem cpl_inj {a b : Nat} (ha : a < 4294967296) (hb : b < 4294967296) (h : cpl a = cpl b) : a = b := by unfold cpl at h; omega
theorem cpl_lt (a : Nat) : cpl a < 4294967296 := by unfold cpl; omega
theorem crcSum_more (t : ByteArray) : crcMore 0 [t] = crcSum t := rfl
theorem crcMore_lt (s : Nat) (l : List ByteArray) : crcMore s l < 4294967296 := cpl_lt _
end Go.Proofs.YtjknchhclneneaaDoor
