/- The document's marks' texts: spenceref19's Text and Parse. -/
import Derived.Test.YtcfighedlbojeaaHex2
import Derived.Test.YtcfighedlbojeaaPDigestTextsx32
namespace Go.Proofs.Ytcfighedlbojeaa
open Go.RowKit Go.Lib

theorem worth_17 : ∀ n : Nat, n < 256 → PDigestTexts.spenceref19_worth.f 17 (n : Int) = some (hexW (UInt8.ofNat n)) := by decide +kernel
theorem worth_f (c : UInt8) (d : Nat) : PDigestTexts.spenceref19_worth.f (17 + d) (c.toNat : Int) = some (hexW c) := by
  induction d with
  | zero =>
    have := worth_17 c.toNat c.toNat_lt
    rwa [UInt8.ofNat_toNat] at this
  | succ d ih => exact PDigestTexts.spenceref19_worth.mono _ _ _ ih
theorem worth_K (c : UInt8) (K : Nat) (h : 17 ≤ K) : PDigestTexts.spenceref19_worth.f K (c.toNat : Int) = some (hexW c) := by
  obtain ⟨d, rfl⟩ : ∃ d, K = 17 + d := ⟨K - 17, by omega⟩
  exact worth_f c d
theorem refparse_l0 (s : ByteArray) (hs : s.size = 64) (j : Nat) : ∀ (K k : Nat) (l : List UInt8), 17 + j ≤ K → k + j = 32 → parseN s k = some l → l.length = k →
    PDigestTexts.spenceref19_Parse.l0 (K + 1) s ⟨l.toArray⟩ ((2 * k : Nat) : Int) = some (match parseN s 32 with | none => (⟨#[]⟩, 18) | some l => (⟨l.toArray⟩, 0)) := by
  induction j with
  | zero =>
    intro K k l hK hk hp hl
    obtain rfl : k = 32 := by omega
    rw [PDigestTexts.spenceref19_Parse.l0, if_neg (by omega), hp]
  | succ j ih =>
    intro K k l hK hk hp hl
    obtain ⟨K', rfl⟩ : ∃ K', K = K' + 1 := ⟨K - 1, by omega⟩
    have h1 : 2 * k < s.size := by omega
    have h2 : 2 * k + 1 < s.size := by omega
    have e1 : s.data.toList.getD (2 * k) 0 = s[2 * k]'h1 := by rw [List.getD_eq_getElem?_getD, List.getElem?_eq_getElem (by rw [Array.length_toList]; exact h1)]; rfl
    have e2 : s.data.toList.getD (2 * k + 1) 0 = s[2 * k + 1]'h2 := by rw [List.getD_eq_getElem?_getD, List.getElem?_eq_getElem (by rw [Array.length_toList]; exact h2)]; rfl
    have b1 : YtcfighedlbojeaaW.PrintWords.bt s ((2 * k : Nat) : Int) = ((s[2 * k]'h1).toNat : Int) := by
      unfold YtcfighedlbojeaaW.PrintWords.bt
      rw [dif_pos (by rw [Int.toNat_natCast]; exact h1)]
      simp only [Int.toNat_natCast]
    have b2 : YtcfighedlbojeaaW.PrintWords.bt s ((2 * k + 1 : Nat) : Int) = ((s[2 * k + 1]'h2).toNat : Int) := by
      unfold YtcfighedlbojeaaW.PrintWords.bt
      rw [dif_pos (by rw [Int.toNat_natCast]; exact h2)]
      simp only [Int.toNat_natCast]
    have hw1 : wrap64 (((2 * k : Nat) : Int) + 1) = ((2 * k + 1 : Nat) : Int) := by unfold wrap64; omega
    have hw2 : wrap64 (((2 * k : Nat) : Int) + 2) = ((2 * (k + 1) : Nat) : Int) := by unfold wrap64; omega
    have hpv : pairV s k = if hexW (s[2 * k]'h1) < 0 ∨ hexW (s[2 * k + 1]'h2) < 0 then none else some (UInt8.ofNat (16 * hexW (s[2 * k]'h1) + hexW (s[2 * k + 1]'h2)).toNat) := by
      unfold pairV
      rw [e1, e2]
    have hra := hexW_range (s[2 * k]'h1)
    have hrb := hexW_range (s[2 * k + 1]'h2)
    rw [PDigestTexts.spenceref19_Parse.l0, if_pos (by omega), if_pos (by omega), if_pos (by omega), b1, worth_K _ _ (by omega), Option.bind_some, hw1, if_pos (by omega), if_pos (by omega), b2, worth_K _ _ (by omega), Option.bind_some]
    generalize hexW (s[2 * k]'h1) = xa at *
    generalize hexW (s[2 * k + 1]'h2) = xb at *
    have hbad : xa < 0 ∨ xb < 0 → parseN s 32 = none := fun hc => by
      have h1 : parseN s (k + 1) = none := by
        show (parseN s k).bind _ = none
        rw [hp, hpv, if_pos hc]
        rfl
      have := parseN_none s (k + 1) (31 - k) h1
      rwa [show k + 1 + (31 - k) = 32 from by omega] at this
    by_cases ha : xa < 0
    · rw [if_pos ha, hbad (.inl ha)]
    · rw [if_neg ha]
      by_cases hb : xb < 0
      · rw [if_pos hb, hbad (.inr hb)]
      · rw [if_neg hb]
        rw [if_neg (by omega)] at hpv
        have hv : (wrap64 (wrap64 (16 * xa) + xb)) % 256 = 16 * xa + xb := by unfold wrap64; omega
        rw [hv, hw2, Option.bind_some]
        have hz : (strOfNums [16 * xa + xb]) = ⟨#[UInt8.ofNat (16 * xa + xb).toNat]⟩ := rfl
        rw [hz]
        have hl2 : (⟨l.toArray⟩ : ByteArray).size = k := by show l.toArray.size = k; simpa using hl
        rw [if_pos (by rw [hl2]; show k + 1 ≤ _; omega)]
        have hj : (⟨l.toArray⟩ : ByteArray) ++ ⟨#[UInt8.ofNat (16 * xa + xb).toNat]⟩ = ⟨(l ++ [UInt8.ofNat (16 * xa + xb).toNat]).toArray⟩ := ByteArray.ext (by simp)
        rw [hj]
        exact ih K' (k + 1) _ (by omega) (by omega) (by show (parseN s k).bind _ = _; rw [hp, hpv]; rfl) (by simp [hl])
theorem ref19_Parse (s : ByteArray) (w : World) :
    Calls Try.prog 57 #[.string s] w fun e w' => e = .returned (.tuple #[.string (parseR s).1, .int .i64 (parseR s).2]) ∧ Below w.heap.size w w' := by
  have h : ∃ k, PDigestTexts.spenceref19_Parse.f k s = some (parseR s) := by
    unfold PDigestTexts.spenceref19_Parse.f parseR
    by_cases h : s.size = 64
    · obtain ⟨k, hk⟩ : ∃ k, 49 + 1 = k := ⟨_, rfl⟩
      have := refparse_l0 s h 32 49 0 [] (Nat.le_refl _) (Nat.zero_add _) rfl rfl
      rw [hk] at this
      refine ⟨k, ?_⟩
      rw [if_pos h, if_pos (by omega)]
      exact this
    · refine ⟨0, ?_⟩
      rw [if_neg h, if_neg (by omega)]
  obtain ⟨k, hk⟩ := h
  exact PDigestTexts.spenceref19_Parse.calls k s _ _ w hk
end Go.Proofs.Ytcfighedlbojeaa
