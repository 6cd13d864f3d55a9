/- The walk of CursorParts: a text that is read in parts is the text. -/
import Derived.Test.YtdfpmlnicbabiaaLaw01
namespace Go.Proofs.Ytdfpmlnicbabiaa
open Go.RowKit

attribute [local go_sem high] run_max_i run_min_i

/-- After some rounds: got is what lies ahead of the place. -/
def PartsRel (W : World) (s : ByteArray) (g : Nat) (got k : Value) (w : World) : Prop :=
  ∃ i at_ : Nat, k = .int .i64 (i : Int) ∧ got = .string (s.extract 0 at_) ∧ Cur w g s at_ 0 ∧ at_ ≤ s.size ∧ (i ≤ at_ ∨ at_ = s.size) ∧ Below W.heap.size W w

theorem law01_parts (s : ByteArray) (st : Int) (w : World) (hs : s.size ≤ 9223372036854775807) (hst : 0 ≤ st ∧ st ≤ 255) :
    Calls Try.prog 4 #[.string s, .int .u8 st] w fun e w' => e = .returned (.bool true) ∧ Below w.heap.size w w' := by
  obtain ⟨h0, h1⟩ := hst
  go_enter Try.func4, Try.ntmps4
  go_wp2_with fail
  refine (law01_awake w).mono ?_
  rintro e w0 ⟨rfl, hb0⟩
  by_cases hlen : s.size ≤ 200
  · go_wp2_with fail
    refine cursor_New _ _ ?_
    intro g w1 hc1 hg hb1
    have hb1 := hb0.trans (hb1.mono hb0.size)
    go_wp2_with fail
    go_loopw [7, 8] (PartsRel w s g) (fun _ k _ => 201 - (intOf k).toNat)
    case atStart => exact ⟨0, 0, rfl, by rw [ext_none], hc1, Nat.zero_le _, .inl (Nat.le_refl _), hb1⟩
    case round =>
      obtain ⟨i, at_, rfl, rfl, hc, hat, hi, hb⟩ := hrel
      by_cases h200 : i ≤ 200
      · by_cases hl : at_ < s.size
        · have hb' : bytesR s at_ 0 (min (1 + st % 9) ((s.size : Int) - at_)) = (s.extract at_ (at_ + (min (1 + st % 9) ((s.size : Int) - at_)).toNat), at_ + (min (1 + st % 9) ((s.size : Int) - at_)).toNat, 0) := by
            unfold bytesR; rw [if_neg (by simp), if_neg (by omega), if_neg (by omega)]
          have HB := Lib.hid hb'
          clear hb'
          go_wp2_with (first
            | (go_at_call 20; refine (cursor_Left g s _ 0 _ (by exact hc) hat hs).mono ?_; rintro e w' ⟨rfl, nq, rfl⟩)
            | (go_at_call 17; refine cursor_Bytes g s _ 0 _ _ (by exact hc) hat hs ?_; rw [HB.out]; intro w2 hc2 hx2))
          have hb2 := below_self hb (Nat.le_refl _) hx2.undrew (Nat.le_trans hb0.size hg)
          go_roundw
          case rel =>
            refine ⟨i + 1, at_ + (min (1 + st % 9) ((s.size : Int) - at_)).toNat, by go_num, ?_, hc2, by omega, by omega, hb2⟩
            congr 1
          case measure => simp [intOf]; omega
        · obtain rfl : at_ = s.size := by omega
          rw [ext_all s]
          have he : endR s s.size 0 = 0 := by unfold endR; simp
          have HE := Lib.hid he
          clear he
          go_wp2_with (first
            | (go_at_call 20; refine (cursor_Left g s _ 0 _ (by exact hc) (Nat.le_refl _) hs).mono ?_; rintro e w' ⟨rfl, nq, rfl⟩)
            | (go_at_call 21; refine cursor_End g s _ 0 _ (by exact hc) (Nat.le_refl _) hs ?_; rw [HE.out]; intro w2 hc2 hx2; have hb2 : Below w.heap.size w w2 := (by first | exact below_self hb (Nat.le_refl _) hx2 (Nat.le_trans hb0.size hg) | exact below_self hb (Nat.le_refl _) hx2.undrew (Nat.le_trans hb0.size hg)))
            | (go_at_call 18; refine (cursor_At g s _ 0 _ hc2).mono ?_; rintro e w' ⟨rfl, rfl⟩))
          all_goals go_ret
          all_goals exact ⟨rfl, hb2⟩
      · obtain rfl : at_ = s.size := by omega
        rw [ext_all s]
        have he : endR s s.size 0 = 0 := by unfold endR; simp
        have HE := Lib.hid he
        clear he
        go_wp2_with (first
          | (go_at_call 20; refine (cursor_Left g s _ 0 _ (by exact hc) (Nat.le_refl _) hs).mono ?_; rintro e w' ⟨rfl, nq, rfl⟩)
          | (go_at_call 21; refine cursor_End g s _ 0 _ (by exact hc) (Nat.le_refl _) hs ?_; rw [HE.out]; intro w2 hc2 hx2; have hb2 : Below w.heap.size w w2 := (by first | exact below_self hb (Nat.le_refl _) hx2 (Nat.le_trans hb0.size hg) | exact below_self hb (Nat.le_refl _) hx2.undrew (Nat.le_trans hb0.size hg)))
          | (go_at_call 18; refine (cursor_At g s _ 0 _ hc2).mono ?_; rintro e w' ⟨rfl, rfl⟩))
        all_goals go_ret
        all_goals exact ⟨rfl, hb2⟩
  · go_wp2
    go_ret
    exact ⟨rfl, hb0⟩
end Go.Proofs.Ytdfpmlnicbabiaa
