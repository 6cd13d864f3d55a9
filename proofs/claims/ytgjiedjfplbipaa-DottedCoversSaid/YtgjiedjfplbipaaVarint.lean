/- The contracts of varint's functions. -/
import Derived.Test.YtgjiedjfplbipaaCursor
import Derived.Test.YtgjiedjfplbipaaPen
namespace Go.Proofs.Ytgjiedjfplbipaa
open Go.RowKit Go.Lib

/-- Reading a number byte by byte: k rounds are left, i are done, n was gathered: the number, the place, the error. -/
def takeL (s : ByteArray) : Nat → Nat → Nat → Int → Int × Nat × Int
  | 0, _, at_, _ => (0, at_, 0)
  | k + 1, i, at_, n =>
    if at_ < s.size then
      if i = 9 ∧ 1 < bt s at_ then (0, at_, 5)
      else if bt s at_ = 0 ∧ 0 < i then (0, at_, 4)
      else if bt s at_ < 128 then (n + bt s at_ % 128 * 128 ^ i, at_ + 1, 0)
      else takeL s k (i + 1) (at_ + 1) (n + bt s at_ % 128 * 128 ^ i)
    else (0, at_, 2)
theorem takeL_succ (s : ByteArray) (k i at_ : Nat) (n : Int) : takeL s (k + 1) i at_ n =
    if at_ < s.size then
      if i = 9 ∧ 1 < bt s at_ then (0, at_, 5)
      else if bt s at_ = 0 ∧ 0 < i then (0, at_, 4)
      else if bt s at_ < 128 then (n + bt s at_ % 128 * 128 ^ i, at_ + 1, 0)
      else takeL s k (i + 1) (at_ + 1) (n + bt s at_ % 128 * 128 ^ i)
    else (0, at_, 2) := rfl
/-- What Take answers, where the cursor stands behind it, and its error. -/
def takeR (s : ByteArray) (at_ : Nat) (err : Int) : Int × Nat × Int := if err = 0 then takeL s 10 0 at_ 0 else (0, at_, err)

theorem take_or (m k : Nat) (c : Int) (h0 : 0 ≤ c) (h1 : c < 256) (hk : k ≤ 9) (h9 : k = 9 → c ≤ 1) (hm : m < 128 ^ k) :
    bits .or .u64 (m : Int) (IntKind.u64.wrap (IntKind.u64.wrap (bits .and .u8 c 127) * 2 ^ (7 * k))) = m + c % 128 * 128 ^ k := by
  have e1 : bits .and .u8 c 127 = c % 128 := bits_mask .u8 8 (by decide) wraps_u8 7 (by decide) c h0 h1
  have hp : (2 : Nat) ^ (7 * k) = 128 ^ k := by rw [Nat.pow_mul]
  obtain ⟨d, hd⟩ : ∃ d : Nat, c % 128 = d := ⟨(c % 128).toNat, by omega⟩
  have hd1 : d < 128 := by omega
  have hd9 : k = 9 → d ≤ 1 := fun e => by have := h9 e; omega
  have hle : d * 128 ^ k < 18446744073709551616 := by
    by_cases e : k = 9
    · subst e
      have := hd9 rfl
      have h2 : d * 128 ^ 9 ≤ 1 * 128 ^ 9 := Nat.mul_le_mul_right _ this
      omega
    · have h3 : 128 ^ k ≤ 128 ^ 8 := Nat.pow_le_pow_right (by decide) (by omega)
      have h2 : d * 128 ^ k ≤ 127 * 128 ^ 8 := Nat.mul_le_mul (by omega) h3
      omega
  have hm64 : m < 18446744073709551616 := by
    have h3 : 128 ^ k ≤ 128 ^ 9 := Nat.pow_le_pow_right (by decide) hk
    omega
  rw [e1, hd, IntKind.wrap_u64, IntKind.wrap_u64, show ((d : Int) % 18446744073709551616) = d from by omega]
  have e2 : ((d : Int) * 2 ^ (7 * k)) % 18446744073709551616 = ((d * 128 ^ k : Nat) : Int) := by
    have : ((d : Int) * 2 ^ (7 * k)) = ((d * 128 ^ k : Nat) : Int) := by
      rw [Int.natCast_mul, Int.natCast_pow, show ((2 : Int) ^ (7 * k)) = ((2 ^ (7 * k) : Nat) : Int) from by simp, hp]
      simp
    rw [this]
    omega
  rw [e2]
  have e3 : bits .or .u64 (m : Int) ((d * 128 ^ k : Nat) : Int) = ((m ||| d * 128 ^ k : Nat) : Int) := by
    show IntKind.u64.wrap ((BitVec.ofInt 64 (m : Int) ||| BitVec.ofInt 64 ((d * 128 ^ k : Nat) : Int)).toNat : Int) = _
    rw [BitVec.toNat_or, BitVec.ofInt_natCast, BitVec.ofInt_natCast, BitVec.toNat_ofNat, BitVec.toNat_ofNat, Nat.mod_eq_of_lt (by simpa using hm64), Nat.mod_eq_of_lt (by simpa using hle), IntKind.wrap_u64]
    have : m ||| d * 128 ^ k < 2 ^ 64 := Nat.or_lt_two_pow (by simpa using hm64) (by simpa using hle)
    omega
  rw [e3, Nat.or_comm, ← hp, ← Nat.shiftLeft_eq, ← Nat.shiftLeft_add_eq_or_of_lt (by rw [hp]; exact hm), Nat.shiftLeft_eq, hp]
  simp
  omega
theorem take_lt (m k : Nat) (c : Int) (hm : m < 128 ^ k) : m + (c % 128).toNat * 128 ^ k < 128 ^ (k + 1) := by
  have h1 : (c % 128).toNat ≤ 127 := by omega
  have h2 := Nat.mul_le_mul_right (128 ^ k) h1
  rw [Nat.pow_succ]
  omega
/-- The loop's relation: what is left to do answers as the whole. -/
def TakeRel (W : World) (g : Nat) (s : ByteArray) (at0 : Nat) (n i : Value) (w : World) : Prop :=
  ∃ (k at_ : Nat) (m : Nat), k ≤ 9 ∧ i = .int .i64 (k : Int) ∧ n = .int .u64 (m : Int) ∧ m < 128 ^ k ∧ at_ ≤ s.size ∧ takeL s 10 0 at0 0 = takeL s (10 - k) k at_ m ∧ Cur w g s at_ 0 ∧ Ext (· = g) W w

set_option maxHeartbeats 2000000 in
set_option maxRecDepth 100000 in
theorem varint_Take (g : Nat) (s : ByteArray) (at_ : Nat) (err : Int) (w : World) (h : Cur w g s at_ err) (ha : at_ ≤ s.size) (hs : s.size ≤ 9223372036854775807) {R : Ending → World → Prop}
    (hR : ∀ w', Cur w' g s (takeR s at_ err).2.1 (takeR s at_ err).2.2 → Ext (· = g) w w' → R (.returned (.int .u64 (takeR s at_ err).1)) w') :
    Calls Try.prog 121 #[.pointer (some ⟨g, 0, none⟩)] w R := by
  by_cases he : err = 0
  · subst he
    unfold takeR at hR
    rw [if_pos rfl] at hR
    go_enter Try.func121, Try.ntmps121
    go_wp2_with fail
    go_loopw [4, 5] (TakeRel w g s at_) (fun _ i _ => 10 - (intOf i).toNat)
    case atStart => exact ⟨0, at_, 0, by decide, rfl, rfl, by decide, ha, rfl, h, .refl _ _⟩
    case round =>
      obtain ⟨k, a, m, hk, rfl, rfl, hm, hat, htk, hc, hx⟩ := hrel
      have HTK := Lib.hid htk
      clear htk
      go_wp2_with fail
      refine (cursor_Err g s a 0 _ hc).mono ?_
      rintro e w' ⟨rfl, rfl⟩
      by_cases hlt : a < s.size
      · have hb1 : aheadN s a 1 = 1 := by unfold aheadN; omega
        have hz1 : (s.extract a (a + 1)).size = 1 := by rw [ByteArray.size_extract]; omega
        have h01 : bt (s.extract a (a + 1)) 0 = bt s a := bt_extract s a (a + 1) 0 (by omega) (by omega)
        go_wp2_with fail
        refine fresh_d (fun W => Cur W g s a 0 ∧ Ext (· = g) w W) (fun n => ⟨hc, hx.drewN n⟩) (cursor_Left g s a 0 _ hc hat hs) ?_
        rintro w2 ⟨hc2, hx2⟩
        clear hc hx
        go_wp2_with fail
        refine fresh_d (fun W => Cur W g s a 0 ∧ Ext (· = g) w W) (fun n => ⟨hc2, hx2.drewN n⟩) (cursor_Ahead g s a 0 1 _ hc2 hat hs) ?_
        rw [hb1]
        rintro w3 ⟨hc3, hx3⟩
        have H01 := Lib.hid h01
        have hz2 : 0 < (s.extract a (a + 1)).size := by omega
        have hbr := bt_range s a
        have hbe := bt_eq (s.extract a (a + 1)) 0 hz2
        rw [h01] at hbe
        clear hc2 hx2 hb1 hz1 h01
        have htk := HTK.out
        obtain ⟨j, hj⟩ : ∃ j, 10 - k = j + 1 := ⟨9 - k, by omega⟩
        rw [hj, takeL_succ s j k a m, if_pos hlt] at htk
        clear HTK
        generalize s.extract a (a + 1) = s1 at *
        obtain ⟨c, hc⟩ : ∃ c, bt s a = c := ⟨_, rfl⟩
        rw [hc] at hbe hbr htk
        have HC := Lib.hid hc
        have HTK := Lib.hid htk
        have HJ := Lib.hid hj
        clear hc htk hj
        obtain ⟨hc0, hc1⟩ := hbr
        have hk0 : (0 : Int) ≤ (k : Int) := Int.natCast_nonneg _
        by_cases h5 : k = 9 ∧ 1 < c
        · obtain ⟨rfl, h51⟩ := h5
          rw [show takeL s 10 0 at_ 0 = (0, a, 5) from by rw [HTK.out, if_pos ⟨rfl, h51⟩]] at hR
          go_wp2_with fail
          refine cursor_Fail g s a 0 5 _ hc3 ?_
          intro w4 hc4 hx4
          go_wp2
          exact hR _ (by simpa using hc4) (hx3.trans hx4 (fun _ _ h => h))
        · have htk := HTK.out
          rw [if_neg h5] at htk
          clear HTK
          have hkc : (((k : Int) == 9) = true ∧ c ≤ 1) ∨ ((k : Int) == 9) = false := by
            by_cases k9 : k = 9
            · exact .inl ⟨by simp [k9], by omega⟩
            · exact .inr (by simp; omega)
          clear h5
          by_cases h4 : c = 0 ∧ 0 < k
          · obtain ⟨h41, h42⟩ := h4
            rw [show takeL s 10 0 at_ 0 = (0, a, 4) from by rw [htk, if_pos ⟨h41, h42⟩]] at hR
            clear htk
            subst h41
            rcases hkc with ⟨hkc, hkc2⟩ | hkc
            all_goals
              go_wp2_with fail
              refine cursor_Fail g s a 0 4 _ hc3 ?_
              intro w4 hc4 hx4
              go_wp2
              exact hR _ (by simpa using hc4) (hx3.trans hx4 (fun _ _ h => h))
          · rw [if_neg h4] at htk
            have HTK := Lib.hid htk
            have hb4 : (c == 0) = false ∨ ((c == 0) = true ∧ k = 0) := by
              by_cases c0 : c = 0
              · exact .inr ⟨by simp [c0], by omega⟩
              · exact .inl (by simpa using c0)
            have hby : byteR s a 0 = (c, a + 1, 0) := by unfold byteR; rw [if_neg (by simp), if_pos hlt, HC.out]
            have HBY := Lib.hid hby
            clear htk hby h4
            have hcb : c < 128 ∨ (128 ≤ c ∧ k ≤ 8) := by
              rcases hkc with ⟨hkc, hkc2⟩ | hkc
              · exact .inl (by omega)
              · simp at hkc; omega
            rcases hcb with hcb | ⟨hcb, hk8⟩
            · rw [show takeL s 10 0 at_ 0 = (m + c % 128 * 128 ^ k, a + 1, 0) from by rw [HTK.out, if_pos hcb], ← take_or m k c hc0 hc1 hk (fun e => by rcases hkc with ⟨_, h⟩ | h; exact h; simp [e] at h) hm] at hR
              clear HTK
              rcases hb4 with hb4 | ⟨hb4, rfl⟩
              · rcases hkc with ⟨hkc, hkc2⟩ | hkc
                all_goals
                  go_wp2_with fail
                  refine cursor_Byte g s a 0 _ hc3 hat hs ?_
                  rw [HBY.out]; dsimp only
                  intro w4 hc4 hx4
                  go_wp2
                  exact hR _ hc4 (hx3.trans hx4 (fun _ _ h => h))
              · clear hkc
                obtain rfl : c = 0 := by simpa using hb4
                go_wp2_with fail
                refine cursor_Byte g s a 0 _ hc3 hat hs ?_
                rw [HBY.out]; dsimp only
                intro w4 hc4 hx4
                go_wp2
                have hRR := hR _ hc4 (hx3.trans hx4 (fun _ _ h => h))
                rw [show (2 : Int) ^ (7 * 0) = 1 from rfl, Int.mul_one] at hRR
                exact hRR
            · have hkc : ((k : Int) == 9) = false := by simp; omega
              have hb4 : (c == 0) = false := by simp; omega
              have htk : takeL s 10 0 at_ 0 = takeL s (10 - (k + 1)) (k + 1) (a + 1) ((m + (c % 128).toNat * 128 ^ k : Nat) : Int) := by
                rw [HTK.out, if_neg (by omega), show 10 - (k + 1) = j from by have := HJ.out; omega, Int.natCast_add, Int.natCast_mul, Int.toNat_of_nonneg (by omega), Int.natCast_pow]
                rfl
              have hmm := take_lt m k c hm
              have hor := take_or m k c hc0 hc1 hk (fun e => by omega) hm
              have HM := Lib.hid hmm
              have HT := Lib.hid htk
              have HOR := Lib.hid hor
              clear HTK htk hmm hor
              go_wp2_with fail
              refine cursor_Byte g s a 0 _ hc3 hat hs ?_
              rw [HBY.out]; dsimp only
              intro w4 hc4 hx4
              go_wp2
              go_roundw
              case rel => exact ⟨k + 1, a + 1, m + (c % 128).toNat * 128 ^ k, by omega, by go_num, by
                rw [HOR.out, Int.natCast_add, Int.natCast_mul, Int.toNat_of_nonneg (by omega), Int.natCast_pow]; rfl, HM.out, by omega, HT.out, hc4, hx3.trans hx4 (fun _ _ h => h)⟩
              case measure => simp [intOf]; omega
      · have hb1 : ((s.size : Int) - a == 0) = true := by simp; omega
        have htk := HTK.out
        obtain ⟨j, hj⟩ : ∃ j, 10 - k = j + 1 := ⟨9 - k, by omega⟩
        rw [hj, takeL_succ s j k a m, if_neg hlt] at htk
        rw [htk] at hR
        clear HTK htk hj
        go_wp2_with fail
        refine fresh_d (fun W => Cur W g s a 0 ∧ Ext (· = g) w W) (fun n => ⟨hc, hx.drewN n⟩) (cursor_Left g s a 0 _ hc hat hs) ?_
        rintro w2 ⟨hc2, hx2⟩
        clear hc hx
        go_wp2_with fail
        refine cursor_Fail g s a 0 2 _ hc2 ?_
        intro w4 hc4 hx4
        go_wp2
        exact hR _ (by simpa using hc4) (hx2.trans hx4 (fun _ _ h => h))
  · unfold takeR at hR
    rw [if_neg he] at hR
    have hb : (err == 0) = false := by simpa using he
    go_enter Try.func121, Try.ntmps121
    go_wp2_with fail
    go_loopw [4, 5] (fun n i w' => w = w') (fun _ i _ => 0)
    case atStart => rfl
    case round =>
      obtain rfl := hrel
      go_wp2_with fail
      refine (cursor_Err g s at_ err _ h).mono ?_
      rintro e w' ⟨rfl, rfl⟩
      go_wp2
      exact hR _ h (Ext.refl _ _)
/-- A number's bytes. -/
def encL : Nat → Nat → List UInt8
  | 0, n => [UInt8.ofNat n]
  | k + 1, n => if 127 < n then UInt8.ofNat (n % 128 + 128) :: encL k (n / 128) else [UInt8.ofNat n]
def encR (n : Nat) : ByteArray := ⟨(encL 9 n).toArray⟩

theorem varint_Take_nil (w : World) :
    Calls Try.prog 121 #[.pointer none] w fun e w' => e = .returned (.int .u64 0) ∧ w = w' := by
  go_enter Try.func121, Try.ntmps121
  go_wp2_with fail
  go_loopw [4, 5] (fun n i w' => w = w') (fun _ i _ => 0)
  case atStart => rfl
  case round =>
    obtain rfl := hrel
    go_wp2_with fail
    refine (cursor_Err_nil _).mono ?_
    rintro e w' ⟨rfl, rfl⟩
    go_wp2
    go_ret
    exact ⟨rfl, rfl⟩

theorem nat_or128 (y : Nat) (hy : y < 128) : 128 ||| y = 128 + y := by
  have := Nat.shiftLeft_add_eq_or_of_lt (i := 7) (b := y) hy 1
  simpa using this.symm
theorem or128 (m : Nat) : bits .or .u8 ((m : Int) % 256) 128 = ((m % 128 + 128 : Nat) : Int) := by
  obtain ⟨x, hx⟩ : ∃ x, m % 256 = x := ⟨_, rfl⟩
  have hx' : ((m : Int) % 256) = (x : Int) := by omega
  have hx2 : x < 256 := by omega
  have h1 : x ||| 128 = m % 128 + 128 := by
    by_cases h : x < 128
    · rw [Nat.or_comm, nat_or128 x h]; omega
    · have e : x = 128 + (x - 128) := by omega
      rw [e, ← nat_or128 (x - 128) (by omega), Nat.or_comm 128, Nat.or_assoc, Nat.or_self, Nat.or_comm, nat_or128 _ (by omega)]; omega
  rw [hx']
  show IntKind.u8.wrap ((BitVec.ofInt 8 (x : Int) ||| BitVec.ofInt 8 ((128 : Nat) : Int)).toNat : Int) = _
  rw [BitVec.toNat_or, BitVec.ofInt_natCast, BitVec.ofInt_natCast, BitVec.toNat_ofNat, BitVec.toNat_ofNat, Nat.mod_eq_of_lt (by omega), Nat.mod_eq_of_lt (by decide), IntKind.wrap_u8, h1]
  omega
theorem strCells_snoc (xs : ByteArray) (x : Nat) (hx : x < 256) : strCells (xs ++ ⟨#[UInt8.ofNat x]⟩) = strCells xs ++ [.int .u8 (x : Int)] := by
  rw [strCells_append]
  congr 1
  have : x % 256 = x := Nat.mod_eq_of_lt hx
  simp [strCells, this]

/-- Behind some rounds: what is left to write of the number. -/
def BytesRel (W : World) (n0 : Nat) (n out : Value) (w : World) : Prop :=
  ∃ (k j m : Nat) (xs : ByteArray), k + j = 9 ∧ n = .int .u64 (m : Int) ∧ m < 2 ^ (64 - 7 * k) ∧ w.ownsRow W.heap.size 5 1 out xs.size (strCells xs) ∧ xs.size = k ∧
    encL 9 n0 = xs.data.toList ++ encL j m ∧ Below W.heap.size W w

set_option maxRecDepth 100000 in
theorem varint_bytes (n : Nat) (w : World) (hn : n < 18446744073709551616) {R : Ending → World → Prop}
    (hR : ∀ v w', w'.ownsRow w.heap.size 5 1 v (encR n).size (strCells (encR n)) → Below w.heap.size w w' → R (.returned v) w') :
    Calls Try.prog 122 #[.int .u64 (n : Int)] w R := by
  obtain ⟨i0, hi0, hz0, hz1, hz2⟩ := info_parts info_u8
  go_enter Try.func122, Try.ntmps122
  go_wp2_with fail
  go_loopw [0, 3] (BytesRel w n) (fun n _ _ => (intOf n).toNat)
  case atStart => exact ⟨0, 9, n, ⟨#[]⟩, rfl, rfl, by simpa using hn, World.ownsRow_nil w _ _ 1, rfl, rfl, .refl _ _⟩
  case round =>
    obtain ⟨k, j, m, xs, hkj, rfl, hm, hown, hxs, henc, hb⟩ := hrel
    obtain ⟨out, hout⟩ : ∃ out, out = u3 := ⟨_, rfl⟩
    subst hout
    by_cases hlt : 127 < m
    · have hor := or128 m
      have HOR := Lib.hid hor
      clear hor
      go_wp2_with (first
        | (at_builtin
           refine wpList_append_own_at _ rfl (.tmp 6) (.tmp 10) _ rfl w.heap.size 5 i0 _ 1 1 Try.underlying114 hi0 hz0 hz1 hz2 rfl (by decide) out xs.size (strCells xs) rfl (hown.alloc _) ⟨wr.heap.size, 0, none⟩ 1 1 [.int .u8 (bits .or .u8 ((m : Int) % 256) 128)] rfl rfl (cell_one_new wr _ _) (by simp [Value.oneCell']) (by simp only [maxLen]; omega) (by omega) (by have := hb.size; simp; omega) ?_
           intro v' w3 hr3 hg3 hn3 ho3'
           clear hn3 ho3'))
      have hj : 1 ≤ j := by
        rcases Nat.eq_zero_or_pos j with h | h
        · subst h
          obtain rfl : k = 9 := by omega
          omega
        · exact h
      obtain ⟨j', rfl⟩ : ∃ j', j = j' + 1 := ⟨j - 1, by omega⟩
      go_roundw
      case rel =>
        refine ⟨k + 1, j', m / 128, xs ++ ⟨#[UInt8.ofNat (m % 128 + 128)]⟩, by omega, by go_num, ?_, ?_, by rw [ByteArray.size_append, hxs]; rfl, ?_, ?_⟩
        · have : 2 ^ (64 - 7 * k) = 2 ^ (64 - 7 * (k + 1)) * 128 := by rw [show 64 - 7 * k = (64 - 7 * (k + 1)) + 7 from by omega, Nat.pow_add]
          omega
        · rw [ByteArray.size_append, strCells_snoc xs _ (by omega), ← HOR.out]; exact hr3
        · rw [henc, encL, if_pos hlt]
          simp
        · exact (hb.alloc hb.size _).grown hg3 (Nat.le_trans hb.size (by simp)) (fun q hq => (own_lt hown hq).1)
      case measure => simp [intOf]; omega
    · go_wp2_with (first
        | (at_builtin
           refine wpList_append_own_at _ rfl (.tmp 14) (.tmp 17) _ rfl w.heap.size 5 i0 _ 1 1 Try.underlying114 hi0 hz0 hz1 hz2 rfl (by decide) out xs.size (strCells xs) rfl (hown.alloc _) ⟨wr.heap.size, 0, none⟩ 1 1 [.int .u8 (m : Int)] rfl rfl (cell_one_new wr _ _) (by simp [Value.oneCell']) (by simp only [maxLen]; omega) (by omega) (by have := hb.size; simp; omega) ?_
           intro v' w3 hr3 hg3 hn3 ho3'
           clear hn3 ho3'))
      have he : encR n = xs ++ ⟨#[UInt8.ofNat m]⟩ := by
        unfold encR
        rw [henc]
        apply ByteArray.ext
        have : encL j m = [UInt8.ofNat m] := by
          cases j with
          | zero => rfl
          | succ j => rw [encL, if_neg hlt]
        rw [this]
        apply Array.ext'
        simp
      refine hR _ _ ?_ ((hb.alloc hb.size _).grown hg3 (Nat.le_trans hb.size (by simp)) (fun q hq => (own_lt hown hq).1))
      rw [he, ByteArray.size_append, strCells_snoc xs _ (by omega)]
      exact hr3

/-- What Decode answers. -/
def decR (s : ByteArray) : Int × Int :=
  if endR s (takeR s 0 0).2.1 (takeR s 0 0).2.2 = 0 then ((takeR s 0 0).1, 0) else (0, endR s (takeR s 0 0).2.1 (takeR s 0 0).2.2)
theorem takeL_at (s : ByteArray) (k : Nat) : ∀ (i a : Nat) (n : Int), a ≤ s.size → (takeL s k i a n).2.1 ≤ s.size := by
  induction k with
  | zero => intro i a n h; exact h
  | succ k ih =>
    intro i a n h
    rw [takeL_succ]
    split
    · split
      · exact h
      · split
        · exact h
        · split
          · show a + 1 ≤ s.size; omega
          · exact ih _ _ _ (by omega)
    · exact h
theorem takeR_at {s : ByteArray} {a : Nat} {err : Int} (h : a ≤ s.size) : (takeR s a err).2.1 ≤ s.size := by
  unfold takeR
  split
  · exact takeL_at s 10 0 a 0 h
  · exact h

end Go.Proofs.Ytgjiedjfplbipaa
