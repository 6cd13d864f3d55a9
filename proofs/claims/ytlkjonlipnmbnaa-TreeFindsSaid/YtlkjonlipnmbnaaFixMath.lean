/- Plain facts on the bytes of numbers. -/
import Derived.Test.YtlkjonlipnmbnaaFixed2
namespace Go.Proofs.Ytlkjonlipnmbnaa
open Go.RowKit Go.Lib

theorem bytesLess_snoc (l : List UInt8) : ∀ (l' : List UInt8) (a b : UInt8), l.length = l'.length → Op.bytesLess (l ++ [a]) (l' ++ [b]) = (Op.bytesLess l l' || (l == l' && decide (a < b))) := by
  induction l with
  | nil =>
    intro l' a b h
    cases l' with
    | nil => simp [Op.bytesLess]
    | cons _ _ => simp at h
  | cons x l ih =>
    intro l' a b h
    cases l' with
    | nil => simp at h
    | cons y l' =>
      rw [List.cons_append, List.cons_append, Op.bytesLess, Op.bytesLess, ih l' a b (by simpa using h)]
      by_cases hxy : x = y
      · subst hxy
        simp [List.cons_beq_cons]
      · have h1 : (x == y) = false := by simpa using hxy
        simp [List.cons_beq_cons, h1]
theorem beL_inj (w : Nat) : ∀ n m, n < 256 ^ w → m < 256 ^ w → beL w n = beL w m → n = m := by
  induction w with
  | zero => intro n m hn hm _; simp at hn hm; omega
  | succ w ih =>
    intro n m hn hm h
    rw [Nat.pow_succ] at hn hm
    rw [beL, beL] at h
    have h1 := List.append_inj_left h (by rw [beL_length, beL_length])
    have h2 := List.append_inj_right h (by rw [beL_length, beL_length])
    have h3 := ih (n / 256) (m / 256) (by omega) (by omega) h1
    have h4 : (UInt8.ofNat (n % 256)).toNat = (UInt8.ofNat (m % 256)).toNat := by rw [List.cons.inj h2 |>.1]
    simp at h4
    omega
/-- The bytes are in the numbers' order. -/
theorem beL_less (w : Nat) : ∀ n m, n < 256 ^ w → m < 256 ^ w → Op.bytesLess (beL w n) (beL w m) = decide (n < m) := by
  induction w with
  | zero => intro n m hn hm; simp at hn hm; subst hn; subst hm; simp [beL, Op.bytesLess]
  | succ w ih =>
    intro n m hn hm
    rw [Nat.pow_succ] at hn hm
    rw [beL, beL, bytesLess_snoc _ _ _ _ (by rw [beL_length, beL_length]), ih _ _ (by omega) (by omega)]
    have hc : (UInt8.ofNat (n % 256) < UInt8.ofNat (m % 256)) ↔ n % 256 < m % 256 := by
      rw [UInt8.lt_iff_toNat_lt]; simp
    rw [Bool.eq_iff_iff]
    simp only [Bool.or_eq_true, decide_eq_true_eq, Bool.and_eq_true, beq_iff_eq]
    constructor
    · rintro (h | ⟨h, h'⟩)
      · omega
      · have := beL_inj w _ _ (by omega) (by omega) h
        have := hc.1 h'
        omega
    · intro h
      by_cases hd : n / 256 < m / 256
      · exact .inl hd
      · have hq : n / 256 = m / 256 := by omega
        exact .inr ⟨by rw [hq], hc.2 (by omega)⟩

theorem beNum_beL (w : Nat) : ∀ n, n < 256 ^ w → beNum (beL w n) = n := by
  induction w with
  | zero => intro n hn; simp at hn; subst hn; rfl
  | succ w ih =>
    intro n hn
    rw [Nat.pow_succ] at hn
    rw [beL, beNum_snoc, ih _ (by omega)]
    simp
    omega

end Go.Proofs.Ytlkjonlipnmbnaa
