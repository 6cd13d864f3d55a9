/- VarintOne's walk. -/
import Derived.Test.YtcfighedlbojeaaLaw03
import Derived.Test.YtcfighedlbojeaaVarint2
import Derived.Test.YtcfighedlbojeaaRef03b
import Derived.Test.YtcfighedlbojeaaLen64
namespace Go.Proofs.Ytcfighedlbojeaa
open Go.RowKit Go.Lib

/-- What is written is read as it alone. -/
theorem decR_of_enc (n : Nat) (h : n < 18446744073709551616) : decR (encR n) = ((n : Int), 0) := by
  have h1 := takeR_dec (encR n) 0 n h (fun j _ => by rw [Nat.zero_add]) (by omega)
  unfold decR
  rw [h1]
  dsimp only
  rw [Nat.zero_add]
  have h2 : endR (encR n) (encR n).size 0 = 0 := by unfold endR; rw [if_neg (by omega)]
  rw [h2, if_pos rfl]
theorem zig_zag (n : Nat) : zigR (zagR n) = n := by
  unfold zigR zagR
  by_cases h : n % 2 = 0
  · rw [if_pos h, if_pos (by omega)]; omega
  · rw [if_neg h, if_neg (by omega)]; omega
theorem zag_zig (n : Int) (k : Nat) (hk : zigR n = k) : zagR k = n := by
  unfold zigR at hk
  unfold zagR
  split at hk
  · rw [if_pos (by omega)]; omega
  · rw [if_neg (by omega)]; omega
theorem zagR_range (n : Nat) (h : n < 18446744073709551616) : -9223372036854775808 ≤ zagR n ∧ zagR n ≤ 9223372036854775807 := by
  unfold zagR; split <;> omega

set_option maxHeartbeats 4000000 in
set_option maxRecDepth 100000 in
theorem law03_one (n m : Nat) (w : World) (hn : n < 18446744073709551616) (hm : m < 18446744073709551616) :
    Calls Try.prog 4 #[.int .u64 (n : Int), .int .u64 (m : Int)] w fun e w' => e = .returned (.bool true) ∧ Below w.heap.size w w' := by
  go_enter Try.func4, Try.ntmps4
  go_wp2_with fail
  refine (law03_awake w).mono ?_
  rintro e w0 ⟨rfl, hb0⟩
  go_wp2_with fail
  refine (varint_Encode n _ hn).mono ?_
  rintro e w1 ⟨rfl, hb1⟩
  have hb1 := hb0.trans (hb1.mono hb0.size)
  go_wp2_with fail
  refine (varint_Decode (encR n) _ (by have := encR_size n; omega)).mono ?_
  rw [decR_of_enc n hn]
  rintro e w2 ⟨rfl, hb2⟩
  have hb2 := hb1.trans (hb2.mono hb1.size)
  go_wp2_with fail
  refine (ref03_Encode n _ hn).mono ?_
  rintro e w3 ⟨rfl, hb3⟩
  have hb3 := hb2.trans (hb3.mono hb2.size)
  have hmono := fun h : n ≤ m => encR_mono n m h
  obtain ⟨s, hs⟩ : ∃ s, encR n = s := ⟨_, rfl⟩
  have HS := Lib.hid hs
  go_wp2_with fail
  refine (varint_Size n _ hn).mono ?_
  rintro e w' ⟨rfl, rfl⟩
  obtain ⟨z, hz⟩ : ∃ z, zagR n = z := ⟨_, rfl⟩
  have hzz := zig_zag n
  have hzr := zagR_range n hn
  rw [hz] at hzz hzr
  obtain ⟨hz0, hz1⟩ := hzr
  have HZ := Lib.hid hz
  have HZZ := Lib.hid hzz
  clear hz hzz
  obtain ⟨v, hv⟩ : ∃ v, wrap64 (m : Int) = v := ⟨_, rfl⟩
  have hvr : -9223372036854775808 ≤ v ∧ v ≤ 9223372036854775807 := by
    rw [← hv]
    unfold wrap64
    omega
  obtain ⟨hv0, hv1⟩ := hvr
  obtain ⟨q, hq⟩ : ∃ q : Nat, zigR v = q := ⟨(zigR v).toNat, by unfold zigR; split <;> omega⟩
  have hq1 : q < 18446744073709551616 := by unfold zigR at hq; split at hq <;> omega
  have hq3 := zag_zig v q hq
  have HV := Lib.hid hv
  have HQ2 : Hid ((if 0 ≤ v then 2 * v else -2 * v - 1) = (q : Int)) := Lib.hid hq
  have HQ := Lib.hid hq
  have HQ3 := Lib.hid hq3
  clear hv hq hq3
  by_cases hnm : (n : Int) ≤ (m : Int)
  · have hle : decide ((encR m).size < s.size) = false := by have := hmono (by omega); rw [hs] at this; simpa using this
    clear hmono
    go_wp2_with fail
    refine (varint_Size n _ hn).mono ?_
    rintro e w' ⟨rfl, rfl⟩
    go_wp2_with fail
    refine (varint_Size m _ hm).mono ?_
    rintro e w' ⟨rfl, rfl⟩
    go_wp2_with fail
    refine (varint_Zag n _ hn).mono ?_
    rw [HZ.out]
    rintro e w' ⟨rfl, rfl⟩
    go_wp2_with fail
    refine (ref03_Zag n _ hn).mono ?_
    rw [HZ.out]
    rintro e w' ⟨rfl, rfl⟩
    go_wp2_with fail
    refine (varint_Zig z _ hz0 hz1).mono ?_
    rw [HZZ.out]
    rintro e w' ⟨rfl, rfl⟩
    go_wp2_with fail
    rw [HV.out]
    refine (varint_Zig v _ hv0 hv1).mono ?_
    rw [HQ.out]
    rintro e w' ⟨rfl, rfl⟩
    go_wp2_with fail
    rw [HV.out]
    refine (ref03_Zig v _ hv0 hv1).mono ?_
    rw [HQ2.out]
    rintro e w' ⟨rfl, rfl⟩
    go_wp2_with fail
    rw [HV.out]
    refine (varint_Zig v _ hv0 hv1).mono ?_
    rw [HQ.out]
    rintro e w' ⟨rfl, rfl⟩
    go_wp2_with fail
    refine (varint_Zag q _ hq1).mono ?_
    rw [HQ3.out]
    rintro e w' ⟨rfl, rfl⟩
    rw [← HV.out]
    go_wp2
    all_goals (try go_ret)
    all_goals exact ⟨by simp, hb3⟩
  · clear hmono
    go_wp2_with fail
    refine (varint_Zag n _ hn).mono ?_
    rw [HZ.out]
    rintro e w' ⟨rfl, rfl⟩
    go_wp2_with fail
    refine (ref03_Zag n _ hn).mono ?_
    rw [HZ.out]
    rintro e w' ⟨rfl, rfl⟩
    go_wp2_with fail
    refine (varint_Zig z _ hz0 hz1).mono ?_
    rw [HZZ.out]
    rintro e w' ⟨rfl, rfl⟩
    go_wp2_with fail
    rw [HV.out]
    refine (varint_Zig v _ hv0 hv1).mono ?_
    rw [HQ.out]
    rintro e w' ⟨rfl, rfl⟩
    go_wp2_with fail
    rw [HV.out]
    refine (ref03_Zig v _ hv0 hv1).mono ?_
    rw [HQ2.out]
    rintro e w' ⟨rfl, rfl⟩
    go_wp2_with fail
    rw [HV.out]
    refine (varint_Zig v _ hv0 hv1).mono ?_
    rw [HQ.out]
    rintro e w' ⟨rfl, rfl⟩
    go_wp2_with fail
    refine (varint_Zag q _ hq1).mono ?_
    rw [HQ3.out]
    rintro e w' ⟨rfl, rfl⟩
    rw [← HV.out]
    go_wp2
    all_goals (try go_ret)
    all_goals exact ⟨by simp, hb3⟩
end Go.Proofs.Ytcfighedlbojeaa
