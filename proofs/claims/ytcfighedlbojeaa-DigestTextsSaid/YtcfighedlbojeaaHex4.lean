/- The document's marks' texts: spenceref19's digit, Text. -/
import Derived.Test.YtcfighedlbojeaaHex3
namespace Go.Proofs.Ytcfighedlbojeaa
open Go.RowKit Go.Lib

theorem digit_ext : ∀ n : Nat, n < 16 → (⟨#[48, 49, 50, 51, 52, 53, 54, 55, 56, 57, 97, 98, 99, 100, 101, 102]⟩ : ByteArray).extract n (n + 1) = ⟨#[hexC n]⟩ := by
  intro n hn
  apply ByteArray.ext
  revert n hn
  decide +kernel
theorem ref19_digit (n : Nat) (w : World) (h : n < 16) : Calls Try.prog 91 #[.int .u8 (n : Int)] w fun e w' => e = .returned (.string ⟨#[hexC n]⟩) ∧ w = w' := by
  have hx := digit_ext n h
  have h0 : (0 : Int) ≤ (n : Int) := by omega
  have h1 : (n : Int) + 1 ≤ 16 := by omega
  have h2 : (n : Int) ≤ (n : Int) + 1 := by omega
  have hw : IntKind.u8.wrap ((n : Int) + 1) = (n : Int) + 1 := by rw [IntKind.wrap_u8]; omega
  have hm : ((n : Int) + 1) % 256 = (n : Int) + 1 := by omega
  go_enter Try.func91, Try.ntmps91
  go_wp2
  go_ret
  exact ⟨rfl, rfl⟩

def RHexRel (s : ByteArray) (W : World) (t i : Value) (w : World) : Prop :=
  ∃ k : Nat, k ≤ 32 ∧ i = .int .i64 (k : Int) ∧ t = .string ⟨(hexL (s.data.toList.take k)).toArray⟩ ∧ ∃ n, w = W.drewN n

set_option maxHeartbeats 2000000 in
set_option maxRecDepth 100000 in
theorem ref19_Text (s : ByteArray) (w : World) : Calls Try.prog 59 #[.string s] w fun e w' => e = .returned (.string (hexR s)) ∧ ∃ n, w' = w.drewN n := by
  unfold hexR
  by_cases h : s.size = 32
  · rw [if_pos h]
    have hi : (s.size : Int) = 32 := by omega
    go_enter Try.func59, Try.ntmps59
    go_wp2_with fail
    go_loopw [3, 4] (RHexRel s w) (fun _ i _ => 32 - (RowKit.intOf i).toNat)
    case atStart => exact ⟨0, by decide, rfl, rfl, 0, rfl⟩
    case round =>
      obtain ⟨k, hk, rfl, rfl, n, hwr⟩ := hrel
      have HWR := Lib.hid hwr
      clear hwr
      by_cases hlt : k < 32
      · have hks : k < s.size := by omega
        have hk0 : (0 : Int) ≤ (k : Int) := by omega
        have hk1 : (k : Int) < 32 := by omega
        have hnx := hexL_take s k hks
        have hz : (hexL (s.data.toList.take k)).length ≤ 64 := by rw [hexL_length, List.length_take]; omega
        obtain ⟨t, ht⟩ : ∃ t : ByteArray, ⟨(hexL (s.data.toList.take k)).toArray⟩ = t := ⟨_, rfl⟩
        have htz : t.size ≤ 64 := by rw [← ht]; show (hexL _).toArray.size ≤ 64; simpa using hz
        have hr := (s[k]'hks).toNat_lt
        obtain ⟨c, hc⟩ : ∃ c, (s[k]'hks).toNat = c := ⟨_, rfl⟩
        rw [hc] at hr hnx
        obtain ⟨p, hp⟩ : ∃ p, c / 16 = p := ⟨_, rfl⟩
        obtain ⟨q, hq2⟩ : ∃ q, c % 16 = q := ⟨_, rfl⟩
        rw [hp, hq2] at hnx
        have hq : ((c : Nat) : Int) / 16 = (p : Int) := by omega
        have hm : ((c : Nat) : Int) % 16 = (q : Int) := by omega
        have hci : ((s[k]'hks).toNat : Int) = (c : Int) := by rw [hc]
        have hnt : t ++ ⟨#[hexC p]⟩ ++ ⟨#[hexC q]⟩ = (⟨(hexL (s.data.toList.take (k + 1))).toArray⟩ : ByteArray) := by
          rw [← ht, hnx]
          exact ByteArray.ext (by simp)
        have hd1 := fun w => ref19_digit p w (by omega)
        have hd2 := fun w => ref19_digit q w (by omega)
        have HD1 := Lib.hid hd1
        have HD2 := Lib.hid hd2
        have HNT := Lib.hid hnt
        have HNX := Lib.hid hnx
        rw [ht]
        clear hd1 hd2 hnt hnx ht hc hz hp hq2
        go_wp2_with fail
        go_quiet ((first
          | (go_at_call 91; exact quiet_l (HD1.out _))
          | (go_at_call 91; exact quiet_l (HD2.out _))))
        go_wp2
        go_roundw
        case rel => exact ⟨k + 1, by omega, by first | rfl | go_num, by rw [← HNT.out], n + nq, by rw [HWR.out, World.drewN_drewN]⟩
        case measure => simp [RowKit.intOf]; omega
      · obtain rfl : k = 32 := by omega
        have hf : s.data.toList.take 32 = s.data.toList := List.take_of_length_le (by rw [Array.length_toList]; exact Nat.le_of_eq h)
        rw [hf]
        go_wp2
        go_ret
        exact ⟨rfl, n, HWR.out⟩
  · rw [if_neg h]
    have hib : ((s.size : Int) == 32) = false := by simp; omega
    go_enter Try.func59, Try.ntmps59
    go_wp2
    go_ret
    exact ⟨rfl, 0, rfl⟩
end Go.Proofs.Ytcfighedlbojeaa
