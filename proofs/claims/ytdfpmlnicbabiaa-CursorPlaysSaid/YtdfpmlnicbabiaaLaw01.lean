/- The walks of the cursor's laws. -/
import Derived.Test.YtdfpmlnicbabiaaCursor
namespace Go.Proofs.Ytdfpmlnicbabiaa
open Go.RowKit

theorem law01_awake (w : World) :
    Calls Try.prog 15 #[] w fun e w' => e = .returned (.bool true) ∧ Below w.heap.size w w' := by
  go_enter Try.func15, Try.ntmps15
  go_wp2_with fail
  refine cursor_New _ _ ?_
  intro g w1 hc1 hg hb1
  go_wp2_with fail
  refine cursor_Byte g _ 0 0 _ hc1 (by decide) (by decide) ?_
  rw [show byteR ⟨#[97, 98]⟩ 0 0 = (97, 1, 0) from by decide]
  intro w2 hc2 hx2
  have hb2 := below_self hb1 (Nat.le_refl _) hx2 hg
  go_wp2_with fail
  refine cursor_Bytes g _ 1 0 2 _ hc2 (by decide) (by decide) ?_
  rw [show bytesR ⟨#[97, 98]⟩ 1 0 2 = (⟨#[]⟩, 1, 2) from by decide]
  intro w3 hc3 hx3
  have hb3 := below_self hb2 (Nat.le_refl _) hx3 hg
  go_wp2_with (first
    | (go_at_call 42; refine (cursor_Err g _ _ _ _ hc3).mono ?_; rintro e w' ⟨rfl, rfl⟩)
    | (go_at_call 18; refine (cursor_At g _ _ _ _ hc3).mono ?_; rintro e w' ⟨rfl, rfl⟩))
  go_ret
  exact ⟨rfl, hb3⟩

theorem law01_since (s : ByteArray) (n m : Int) (w : World) (hs : s.size ≤ 9223372036854775807) :
    Calls Try.prog 3 #[.string s, .int .i64 n, .int .i64 m] w fun e w' => e = .returned (.bool true) ∧ Below w.heap.size w w' := by
  go_enter Try.func3, Try.ntmps3
  go_wp2_with fail
  refine (law01_awake w).mono ?_
  rintro e w0 ⟨rfl, hb0⟩
  by_cases hlen : s.size ≤ 200
  · go_wp2_with fail
    refine cursor_New _ _ ?_
    intro g w1 hc1 hg hb1
    have hb1 := hb0.trans (hb1.mono hb0.size)
    go_wp2_with fail
    refine cursor_Bytes g _ 0 0 n _ hc1 (Nat.zero_le _) hs ?_
    by_cases hn : 0 ≤ n ∧ n ≤ s.size
    · obtain ⟨k, rfl⟩ := Int.eq_ofNat_of_zero_le hn.1
      have hk : k ≤ s.size := by omega
      rw [show bytesR s 0 0 k = (s.extract 0 k, k, 0) from by unfold bytesR; rw [if_neg (by simp), if_neg (by omega), if_neg (by omega)]; simp]
      intro w2 hc2 hx2
      have hb2 := below_self hb1 (Nat.le_refl _) hx2 (Nat.le_trans hb0.size hg)
      clear hn
      by_cases hf : 0 ≤ m ∧ m ≤ k
      · obtain ⟨j, rfl⟩ := Int.eq_ofNat_of_zero_le hf.1
        have hj : j ≤ k := by omega
        clear hf
        have hs2 : sinceR s k j = s.extract j k := by unfold sinceR; rw [if_neg (by omega), Int.toNat_natCast]
        have HS := Lib.hid hs2
        clear hs2
        go_wp2_with (first
          | (go_at_call 18; refine (cursor_At g _ _ _ _ hc2).mono ?_; rintro e w' ⟨rfl, rfl⟩)
          | (go_at_call 19; refine (cursor_Since g _ _ _ _ _ hc2 hk).mono ?_; rw [HS.out]; rintro e w' ⟨rfl, nq, rfl⟩))
        go_ret
        exact ⟨by simp, below_drewN hb2 _⟩
      · have hs2 : sinceR s k m = ⟨#[]⟩ := by unfold sinceR; rw [if_pos (by omega)]
        have HS := Lib.hid hs2
        clear hs2
        by_cases hm : 0 ≤ m
        · have hm2 : k < m := by omega
          clear hf
          go_wp2_with (first
            | (go_at_call 18; refine (cursor_At g _ _ _ _ hc2).mono ?_; rintro e w' ⟨rfl, rfl⟩)
            | (go_at_call 19; refine (cursor_Since g _ _ _ _ _ hc2 hk).mono ?_; rw [HS.out]; rintro e w' ⟨rfl, nq, rfl⟩))
          go_ret
          exact ⟨by simp, below_drewN hb2 _⟩
        · have hm2 : m < 0 := by omega
          clear hf
          go_wp2_with (first
            | (go_at_call 18; refine (cursor_At g _ _ _ _ hc2).mono ?_; rintro e w' ⟨rfl, rfl⟩)
            | (go_at_call 19; refine (cursor_Since g _ _ _ _ _ hc2 hk).mono ?_; rw [HS.out]; rintro e w' ⟨rfl, nq, rfl⟩))
          go_ret
          exact ⟨by simp, below_drewN hb2 _⟩
    · obtain ⟨er, hr⟩ : ∃ er, bytesR s 0 0 n = (⟨#[]⟩, 0, er) := by
        unfold bytesR
        rw [if_neg (by simp)]
        split
        · exact ⟨_, rfl⟩
        · rw [if_pos (by omega)]; exact ⟨_, rfl⟩
      rw [hr]
      clear hr
      intro w2 hc2 hx2
      have hb2 := below_self hb1 (Nat.le_refl _) hx2 (Nat.le_trans hb0.size hg)
      have hs2 : sinceR s 0 m = ⟨#[]⟩ := by
        unfold sinceR
        split
        · rfl
        · have : m.toNat = 0 := by omega
          rw [this]
          exact ByteArray.ext (by simp)
      have HS := Lib.hid hs2
      clear hs2
      have hx : s.extract 0 0 = ⟨#[]⟩ := ByteArray.ext (by simp)
      have HX := Lib.hid hx
      clear hx
      by_cases hn0 : 0 ≤ n
      · have hn1 : s.size < n := by omega
        clear hn
        by_cases hm : m < 0
        · go_wp2_with (first
            | (go_at_call 18; refine (cursor_At g _ _ _ _ hc2).mono ?_; rintro e w' ⟨rfl, rfl⟩)
            | (go_at_call 19; refine (cursor_Since g _ _ _ _ _ hc2 (Nat.zero_le _)).mono ?_; rw [HS.out]; rintro e w' ⟨rfl, nq, rfl⟩))
          go_ret
          exact ⟨by first | rfl | simp [HX.out] | simp, below_drewN hb2 _⟩
        · by_cases hm2 : 0 < m
          · go_wp2_with (first
              | (go_at_call 18; refine (cursor_At g _ _ _ _ hc2).mono ?_; rintro e w' ⟨rfl, rfl⟩)
              | (go_at_call 19; refine (cursor_Since g _ _ _ _ _ hc2 (Nat.zero_le _)).mono ?_; rw [HS.out]; rintro e w' ⟨rfl, nq, rfl⟩))
            go_ret
            exact ⟨by first | rfl | simp [HX.out] | simp, below_drewN hb2 _⟩
          · obtain rfl : m = 0 := by omega
            go_wp2_with (first
              | (go_at_call 18; refine (cursor_At g _ _ _ _ hc2).mono ?_; rintro e w' ⟨rfl, rfl⟩)
              | (go_at_call 19; refine (cursor_Since g _ _ _ _ _ hc2 (Nat.zero_le _)).mono ?_; rw [HS.out]; rintro e w' ⟨rfl, nq, rfl⟩))
            go_ret
            exact ⟨by first | rfl | simp [HX.out] | simp, below_drewN hb2 _⟩
      · have hn1 : n < 0 := by omega
        clear hn
        by_cases hm : m < 0
        · go_wp2_with (first
            | (go_at_call 18; refine (cursor_At g _ _ _ _ hc2).mono ?_; rintro e w' ⟨rfl, rfl⟩)
            | (go_at_call 19; refine (cursor_Since g _ _ _ _ _ hc2 (Nat.zero_le _)).mono ?_; rw [HS.out]; rintro e w' ⟨rfl, nq, rfl⟩))
          go_ret
          exact ⟨by first | rfl | simp [HX.out] | simp, below_drewN hb2 _⟩
        · by_cases hm2 : 0 < m
          · go_wp2_with (first
              | (go_at_call 18; refine (cursor_At g _ _ _ _ hc2).mono ?_; rintro e w' ⟨rfl, rfl⟩)
              | (go_at_call 19; refine (cursor_Since g _ _ _ _ _ hc2 (Nat.zero_le _)).mono ?_; rw [HS.out]; rintro e w' ⟨rfl, nq, rfl⟩))
            go_ret
            exact ⟨by first | rfl | simp [HX.out] | simp, below_drewN hb2 _⟩
          · obtain rfl : m = 0 := by omega
            go_wp2_with (first
              | (go_at_call 18; refine (cursor_At g _ _ _ _ hc2).mono ?_; rintro e w' ⟨rfl, rfl⟩)
              | (go_at_call 19; refine (cursor_Since g _ _ _ _ _ hc2 (Nat.zero_le _)).mono ?_; rw [HS.out]; rintro e w' ⟨rfl, nq, rfl⟩))
            go_ret
            exact ⟨by first | rfl | simp [HX.out] | simp, below_drewN hb2 _⟩
  · go_wp2
    go_ret
    exact ⟨rfl, hb0⟩

theorem law01_none (n m : Int) (w : World) :
    Calls Try.prog 8 #[.int .i64 n, .int .i64 m] w fun e w' => e = .returned (.bool true) ∧ Below w.heap.size w w' := by
  go_enter Try.func8, Try.ntmps8
  go_wp2_with fail
  refine (law01_awake w).mono ?_
  rintro e w0 ⟨rfl, hb0⟩
  go_wp2_with (first
    | (go_at_call 39; refine (cursor_Fail_nil _ _).mono ?_; rintro e w' ⟨rfl, rfl⟩)
    | (go_at_call 36; refine (cursor_Byte_nil _).mono ?_; rintro e w' ⟨rfl, rfl⟩)
    | (go_at_call 17; refine (cursor_Bytes_nil _ _).mono ?_; rintro e w' ⟨rfl, rfl⟩)
    | (go_at_call 42; refine (cursor_Err_nil _).mono ?_; rintro e w' ⟨rfl, rfl⟩)
    | (go_at_call 21; refine (cursor_End_nil _).mono ?_; rintro e w' ⟨rfl, rfl⟩)
    | (go_at_call 18; refine (cursor_At_nil _).mono ?_; rintro e w' ⟨rfl, rfl⟩)
    | (go_at_call 20; refine (cursor_Left_nil _).mono ?_; rintro e w' ⟨rfl, rfl⟩)
    | (go_at_call 19; refine (cursor_Since_nil _ _).mono ?_; rintro e w' ⟨rfl, rfl⟩)
    | (go_at_call 43; refine (cursor_Ahead_nil _ _).mono ?_; rintro e w' ⟨rfl, rfl⟩))
  go_ret
  exact ⟨rfl, hb0⟩
end Go.Proofs.Ytdfpmlnicbabiaa
