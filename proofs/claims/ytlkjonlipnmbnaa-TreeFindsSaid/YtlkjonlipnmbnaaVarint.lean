/- The contracts of varint's functions. -/
import Derived.Test.YtlkjonlipnmbnaaCursor
import Derived.Test.YtlkjonlipnmbnaaPen
namespace Go.Proofs.Ytlkjonlipnmbnaa
open Go.RowKit Go.Lib

/-- Reading a number byte by byte: k rounds are left, i are done, n was gathered: the number, the place, the error. -/
def takeL (s : ByteArray) : Nat → Nat → Nat → Int → Int × Nat × Int
  | 0, _, at_, _ => (0, at_, 0)
  | k + 1, i, at_, n =>
    if at_ < s.size then
      if i = 9 ∧ 1 < bt s at_ then (0, at_, 5)
      else if bt s at_ = 0 ∧ 0 < i then (0, at_, 4)
      else if bt s at_ < 128 then (n + bt s at_ % 128 * 128 ^ i, at_ + 1, 0)
      else takeL s k (i + 1) (at_ + 1) (n + bt s at_ % 128 * 128 ^ i)
    else (0, at_, 2)
theorem takeL_succ (s : ByteArray) (k i at_ : Nat) (n : Int) : takeL s (k + 1) i at_ n =
    if at_ < s.size then
      if i = 9 ∧ 1 < bt s at_ then (0, at_, 5)
      else if bt s at_ = 0 ∧ 0 < i then (0, at_, 4)
      else if bt s at_ < 128 then (n + bt s at_ % 128 * 128 ^ i, at_ + 1, 0)
      else takeL s k (i + 1) (at_ + 1) (n + bt s at_ % 128 * 128 ^ i)
    else (0, at_, 2) := rfl
/-- What Take answers, where the cursor stands behind it, and its error. -/
def takeR (s : ByteArray) (at_ : Nat) (err : Int) : Int × Nat × Int := if err = 0 then takeL s 10 0 at_ 0 else (0, at_, err)

theorem take_or (m k : Nat) (c : Int) (h0 : 0 ≤ c) (h1 : c < 256) (hk : k ≤ 9) (h9 : k = 9 → c ≤ 1) (hm : m < 128 ^ k) :
    bits .or .u64 (m : Int) (IntKind.u64.wrap (IntKind.u64.wrap (bits .and .u8 c 127) * 2 ^ (7 * k))) = m + c % 128 * 128 ^ k := by
  have e1 : bits .and .u8 c 127 = c % 128 := bits_mask .u8 8 (by decide) wraps_u8 7 (by decide) c h0 h1
  have hp : (2 : Nat) ^ (7 * k) = 128 ^ k := by rw [Nat.pow_mul]
  obtain ⟨d, hd⟩ : ∃ d : Nat, c % 128 = d := ⟨(c % 128).toNat, by omega⟩
  have hd1 : d < 128 := by omega
  have hd9 : k = 9 → d ≤ 1 := fun e => by have := h9 e; omega
  have hle : d * 128 ^ k < 18446744073709551616 := by
    by_cases e : k = 9
    · subst e
      have := hd9 rfl
      have h2 : d * 128 ^ 9 ≤ 1 * 128 ^ 9 := Nat.mul_le_mul_right _ this
      omega
    · have h3 : 128 ^ k ≤ 128 ^ 8 := Nat.pow_le_pow_right (by decide) (by omega)
      have h2 : d * 128 ^ k ≤ 127 * 128 ^ 8 := Nat.mul_le_mul (by omega) h3
      omega
  have hm64 : m < 18446744073709551616 := by
    have h3 : 128 ^ k ≤ 128 ^ 9 := Nat.pow_le_pow_right (by decide) hk
    omega
  rw [e1, hd, IntKind.wrap_u64, IntKind.wrap_u64, show ((d : Int) % 18446744073709551616) = d from by omega]
  have e2 : ((d : Int) * 2 ^ (7 * k)) % 18446744073709551616 = ((d * 128 ^ k : Nat) : Int) := by
    have : ((d : Int) * 2 ^ (7 * k)) = ((d * 128 ^ k : Nat) : Int) := by
      rw [Int.natCast_mul, Int.natCast_pow, show ((2 : Int) ^ (7 * k)) = ((2 ^ (7 * k) : Nat) : Int) from by simp, hp]
      simp
    rw [this]
    omega
  rw [e2]
  have e3 : bits .or .u64 (m : Int) ((d * 128 ^ k : Nat) : Int) = ((m ||| d * 128 ^ k : Nat) : Int) := by
    show IntKind.u64.wrap ((BitVec.ofInt 64 (m : Int) ||| BitVec.ofInt 64 ((d * 128 ^ k : Nat) : Int)).toNat : Int) = _
    rw [BitVec.toNat_or, BitVec.ofInt_natCast, BitVec.ofInt_natCast, BitVec.toNat_ofNat, BitVec.toNat_ofNat, Nat.mod_eq_of_lt (by simpa using hm64), Nat.mod_eq_of_lt (by simpa using hle), IntKind.wrap_u64]
    have : m ||| d * 128 ^ k < 2 ^ 64 := Nat.or_lt_two_pow (by simpa using hm64) (by simpa using hle)
    omega
  rw [e3, Nat.or_comm, ← hp, ← Nat.shiftLeft_eq, ← Nat.shiftLeft_add_eq_or_of_lt (by rw [hp]; exact hm), Nat.shiftLeft_eq, hp]
  simp
  omega
theorem take_lt (m k : Nat) (c : Int) (hm : m < 128 ^ k) : m + (c % 128).toNat * 128 ^ k < 128 ^ (k + 1) := by
  have h1 : (c % 128).toNat ≤ 127 := by omega
  have h2 := Nat.mul_le_mul_right (128 ^ k) h1
  rw [Nat.pow_succ]
  omega
/-- A number's bytes. -/
def encL : Nat → Nat → List UInt8
  | 0, n => [UInt8.ofNat n]
  | k + 1, n => if 127 < n then UInt8.ofNat (n % 128 + 128) :: encL k (n / 128) else [UInt8.ofNat n]
def encR (n : Nat) : ByteArray := ⟨(encL 9 n).toArray⟩

theorem nat_or128 (y : Nat) (hy : y < 128) : 128 ||| y = 128 + y := by
  have := Nat.shiftLeft_add_eq_or_of_lt (i := 7) (b := y) hy 1
  simpa using this.symm
theorem or128 (m : Nat) : bits .or .u8 ((m : Int) % 256) 128 = ((m % 128 + 128 : Nat) : Int) := by
  obtain ⟨x, hx⟩ : ∃ x, m % 256 = x := ⟨_, rfl⟩
  have hx' : ((m : Int) % 256) = (x : Int) := by omega
  have hx2 : x < 256 := by omega
  have h1 : x ||| 128 = m % 128 + 128 := by
    by_cases h : x < 128
    · rw [Nat.or_comm, nat_or128 x h]; omega
    · have e : x = 128 + (x - 128) := by omega
      rw [e, ← nat_or128 (x - 128) (by omega), Nat.or_comm 128, Nat.or_assoc, Nat.or_self, Nat.or_comm, nat_or128 _ (by omega)]; omega
  rw [hx']
  show IntKind.u8.wrap ((BitVec.ofInt 8 (x : Int) ||| BitVec.ofInt 8 ((128 : Nat) : Int)).toNat : Int) = _
  rw [BitVec.toNat_or, BitVec.ofInt_natCast, BitVec.ofInt_natCast, BitVec.toNat_ofNat, BitVec.toNat_ofNat, Nat.mod_eq_of_lt (by omega), Nat.mod_eq_of_lt (by decide), IntKind.wrap_u8, h1]
  omega
theorem strCells_snoc (xs : ByteArray) (x : Nat) (hx : x < 256) : strCells (xs ++ ⟨#[UInt8.ofNat x]⟩) = strCells xs ++ [.int .u8 (x : Int)] := by
  rw [strCells_append]
  congr 1
  have : x % 256 = x := Nat.mod_eq_of_lt hx
  simp [strCells, this]

/-- Behind some rounds: what is left to write of the number. -/
def BytesRel (W : World) (n0 : Nat) (n out : Value) (w : World) : Prop :=
  ∃ (k j m : Nat) (xs : ByteArray), k + j = 9 ∧ n = .int .u64 (m : Int) ∧ m < 2 ^ (64 - 7 * k) ∧ w.ownsRow W.heap.size 5 1 out xs.size (strCells xs) ∧ xs.size = k ∧
    encL 9 n0 = xs.data.toList ++ encL j m ∧ Below W.heap.size W w

set_option maxRecDepth 100000 in
theorem varint_bytes (n : Nat) (w : World) (hn : n < 18446744073709551616) {R : Ending → World → Prop}
    (hR : ∀ v w', w'.ownsRow w.heap.size 5 1 v (encR n).size (strCells (encR n)) → Below w.heap.size w w' → R (.returned v) w') :
    Calls Try.prog 79 #[.int .u64 (n : Int)] w R := by
  obtain ⟨i0, hi0, hz0, hz1, hz2⟩ := info_parts info_u8
  go_enter Try.func79, Try.ntmps79
  go_wp2_with fail
  go_loopw [0, 3] (BytesRel w n) (fun n _ _ => (intOf n).toNat)
  case atStart => exact ⟨0, 9, n, ⟨#[]⟩, rfl, rfl, by simpa using hn, World.ownsRow_nil w _ _ 1, rfl, rfl, .refl _ _⟩
  case round =>
    obtain ⟨k, j, m, xs, hkj, rfl, hm, hown, hxs, henc, hb⟩ := hrel
    obtain ⟨out, hout⟩ : ∃ out, out = u3 := ⟨_, rfl⟩
    subst hout
    by_cases hlt : 127 < m
    · have hor := or128 m
      have HOR := Lib.hid hor
      clear hor
      go_wp2_with (first
        | (at_builtin
           refine wpList_append_own_at _ rfl (.tmp 6) (.tmp 10) _ rfl w.heap.size 5 i0 _ 1 1 Try.underlying34 hi0 hz0 hz1 hz2 rfl (by decide) out xs.size (strCells xs) rfl (hown.alloc _) ⟨wr.heap.size, 0, none⟩ 1 1 [.int .u8 (bits .or .u8 ((m : Int) % 256) 128)] rfl rfl (cell_one_new wr _ _) (by simp [Value.oneCell']) (by simp only [maxLen]; omega) (by omega) (by have := hb.size; simp; omega) ?_
           intro v' w3 hr3 hg3 hn3 ho3'
           clear hn3 ho3'))
      have hj : 1 ≤ j := by
        rcases Nat.eq_zero_or_pos j with h | h
        · subst h
          obtain rfl : k = 9 := by omega
          omega
        · exact h
      obtain ⟨j', rfl⟩ : ∃ j', j = j' + 1 := ⟨j - 1, by omega⟩
      go_roundw
      case rel =>
        refine ⟨k + 1, j', m / 128, xs ++ ⟨#[UInt8.ofNat (m % 128 + 128)]⟩, by omega, by go_num, ?_, ?_, by rw [ByteArray.size_append, hxs]; rfl, ?_, ?_⟩
        · have : 2 ^ (64 - 7 * k) = 2 ^ (64 - 7 * (k + 1)) * 128 := by rw [show 64 - 7 * k = (64 - 7 * (k + 1)) + 7 from by omega, Nat.pow_add]
          omega
        · rw [ByteArray.size_append, strCells_snoc xs _ (by omega), ← HOR.out]; exact hr3
        · rw [henc, encL, if_pos hlt]
          simp
        · exact (hb.alloc hb.size _).grown hg3 (Nat.le_trans hb.size (by simp)) (fun q hq => (own_lt hown hq).1)
      case measure => simp [intOf]; omega
    · go_wp2_with (first
        | (at_builtin
           refine wpList_append_own_at _ rfl (.tmp 14) (.tmp 17) _ rfl w.heap.size 5 i0 _ 1 1 Try.underlying34 hi0 hz0 hz1 hz2 rfl (by decide) out xs.size (strCells xs) rfl (hown.alloc _) ⟨wr.heap.size, 0, none⟩ 1 1 [.int .u8 (m : Int)] rfl rfl (cell_one_new wr _ _) (by simp [Value.oneCell']) (by simp only [maxLen]; omega) (by omega) (by have := hb.size; simp; omega) ?_
           intro v' w3 hr3 hg3 hn3 ho3'
           clear hn3 ho3'))
      have he : encR n = xs ++ ⟨#[UInt8.ofNat m]⟩ := by
        unfold encR
        rw [henc]
        apply ByteArray.ext
        have : encL j m = [UInt8.ofNat m] := by
          cases j with
          | zero => rfl
          | succ j => rw [encL, if_neg hlt]
        rw [this]
        apply Array.ext'
        simp
      refine hR _ _ ?_ ((hb.alloc hb.size _).grown hg3 (Nat.le_trans hb.size (by simp)) (fun q hq => (own_lt hown hq).1))
      rw [he, ByteArray.size_append, strCells_snoc xs _ (by omega)]
      exact hr3

theorem varint_Encode (n : Nat) (w : World) (hn : n < 18446744073709551616) :
    Calls Try.prog 65 #[.int .u64 (n : Int)] w fun e w' => e = .returned (.string (encR n)) ∧ Below w.heap.size w w' := by
  go_enter Try.func65, Try.ntmps65
  go_wp2_with fail
  refine varint_bytes n _ hn ?_
  intro v w1 hown hb
  have hcv := run_string_of (P := Try.prog) w1 w.heap.size 34 9 5 Try.underlying34 Try.underlying5 Try.underlying9 v (encR n) hown
  go_wp2
  go_ret
  exact ⟨rfl, hb⟩

/-- What Decode answers. -/
def decR (s : ByteArray) : Int × Int :=
  if endR s (takeR s 0 0).2.1 (takeR s 0 0).2.2 = 0 then ((takeR s 0 0).1, 0) else (0, endR s (takeR s 0 0).2.1 (takeR s 0 0).2.2)
theorem takeL_at (s : ByteArray) (k : Nat) : ∀ (i a : Nat) (n : Int), a ≤ s.size → (takeL s k i a n).2.1 ≤ s.size := by
  induction k with
  | zero => intro i a n h; exact h
  | succ k ih =>
    intro i a n h
    rw [takeL_succ]
    split
    · split
      · exact h
      · split
        · exact h
        · split
          · show a + 1 ≤ s.size; omega
          · exact ih _ _ _ (by omega)
    · exact h
theorem takeR_at {s : ByteArray} {a : Nat} {err : Int} (h : a ≤ s.size) : (takeR s a err).2.1 ≤ s.size := by
  unfold takeR
  split
  · exact takeL_at s 10 0 a 0 h
  · exact h

end Go.Proofs.Ytlkjonlipnmbnaa
