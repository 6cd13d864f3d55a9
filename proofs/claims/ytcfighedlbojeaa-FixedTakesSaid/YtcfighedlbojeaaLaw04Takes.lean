/- FixedTakes' walk. -/
import Derived.Test.YtcfighedlbojeaaFixed3
import Derived.Test.YtcfighedlbojeaaLaw04A
import Derived.Deep.RegionWith
import Derived.Deep.DrawnRows
namespace Go.Proofs.Ytcfighedlbojeaa
open Go.RowKit Go.Lib

attribute [local go_sem ↓] Go.wp_at_zero Go.wp_at_succ

def FTakesRel (W : World) (g x : Nat) (s : ByteArray) (n : Nat) (i : Value) (w : World) : Prop :=
  ∃ (k a : Nat) (e : Int), k ≤ n ∧ i = .int .i64 (k : Int) ∧ a ≤ s.size ∧ Cur w g s a e ∧ RCur w x s a e ∧ Below W.heap.size W w

set_option maxRecDepth 100000 in
set_option maxHeartbeats 20000000 in
theorem law04_takes (s : ByteArray) (A : Option Addr) (n c : Nat) (l : List Int) (w : World) (hs : s.size ≤ 140737488351232) (hl : IntsAt .i64 w A n l) (hn : n ≤ 140737488351232) :
    Calls Try.prog 5 #[.string s, .slice A n c] w fun e w' => e = .returned (.bool true) ∧ Below w.heap.size w w' := by
  go_enter Try.func5, Try.ntmps5
  go_wp2_with fail
  refine (law04_awake w).mono ?_
  rintro e w0 ⟨rfl, hb0⟩
  have hbig' : (40 < n) = (40 < n) := rfl
  by_cases hbig : (200 : Int) < (s.size : Int) ∨ (40 : Int) < (n : Int)
  · rcases hbig with hbig | hbig
    all_goals go_wp2
    all_goals go_ret
    all_goals exact ⟨rfl, hb0⟩
  · obtain ⟨hbig, hbig2⟩ : (s.size : Int) ≤ 200 ∧ (n : Int) ≤ 40 := by omega
    clear hbig'
    go_wp2_with fail
    refine cursor_New _ _ ?_
    intro g w1 hc1 hg hb1
    have hgl : w.heap.size ≤ g := Nat.le_trans hb0.size hg
    have hb1 := hb0.trans (hb1.mono hb0.size)
    obtain ⟨x, hx⟩ : ∃ x, w1.heap.size = x := ⟨_, rfl⟩
    have hxl : w.heap.size ≤ x := by rw [← hx]; exact hb1.size
    have hgx : g ≠ x := by rw [← hx]; exact Nat.ne_of_lt (Blk.lt hc1)
    obtain ⟨o, ho⟩ : ∃ o : Obj, o = .cells #[.string s, .int .i64 0, .int .i64 0] 27 := ⟨_, rfl⟩
    have hr0 : RCur (w1.alloc o) x s 0 0 := by rw [← hx, ho]; exact Blk.new _ _ _
    have hc0 : Cur (w1.alloc o) g s 0 0 := Blk.alloc hc1 _
    have hb2 : Below w.heap.size w (w1.alloc o) := hb1.alloc hb1.size _
    rw [ho] at hr0 hc0 hb2
    clear ho
    have HX := Lib.hid hx
    clear hx hg hc1
    go_wp2_with fail
    rw [HX.out]
    obtain ⟨w2, hw2⟩ : ∃ w2, w1.alloc (.cells #[.string s, .int .i64 0, .int .i64 0] 27) = w2 := ⟨_, rfl⟩
    rw [hw2] at hr0 hc0 hb2 ⊢
    clear hw2 HX
    go_loopw [7] (FTakesRel w g x s n) (fun i _ => n - (intOf i).toNat)
    case atStart => exact ⟨0, 0, 0, Nat.zero_le _, rfl, Nat.zero_le _, hc0, hr0, hb2⟩
    case round =>
      clear hc0 hr0 hb2 hb0 hb1
      obtain ⟨k, a, e, hk, rfl, ha, hc, hr, hb⟩ := hrel
      have hk0 : (0 : Int) ≤ (k : Int) := Int.natCast_nonneg _
      by_cases hlt : k < n
      · have hk1 : (k : Int) < (n : Int) := by omega
        obtain ⟨ad, rfl, hcw0, hbw⟩ := hl.2 k hlt
        have hbk : (ad.add k).block < w.heap.size := by rw [add_block]; exact hbw
        have hcw := (hb.cell hbk).trans hcw0
        generalize l.getD k 0 = wd at *
        clear hcw0
        obtain ⟨q1, q2, q3, hq⟩ : ∃ q1 q2 q3, fixTakeR s a e wd = (q1, q2, q3) := ⟨_, _, _, rfl⟩
        have hat := fixTakeR_at (s := s) (at_ := a) (err := e) wd ha
        rw [hq] at hat
        have HQ := Lib.hid hq
        clear hq
        dsimp only at hat
        have hgx' : x ≠ g := fun h => hgx h.symm
        go_wp2_with fail
        go_region_with ((first
            | (go_at_call 28; refine fixed_Take wd g s a e _ (by exact hc) ha (by omega) ?_; rw [HQ.out]; dsimp only; intro w3 hc3 hx3; have hx3 := hx3.undrew1; have hr3 := RCur.ext (by exact hr) hx3 hgx'; have hb3 := below_self (by exact hb) (Nat.le_refl _) hx3 hgl; have hcw3 := (hx3.below hb.size (fun q hq e => absurd hq (by omega))).cell hbk |>.trans hcw)
            | (go_at_call 29; refine ref04_Take wd x s a e _ (by exact hr3) ha (by omega) ?_; rw [HQ.out]; dsimp only; intro w4 hr4 hx4; have hc4 := Cur.ext (by exact hc3) hx4 hgx; have hb4 := below_self (by exact hb3) (Nat.le_refl _) hx4 hxl; obtain ⟨r0, r1, r2, _, _⟩ := hr4.cells; have hcw4 := (hx4.below hb3.size (fun q hq e => absurd hq (by omega))).cell hbk |>.trans hcw3)
            | (go_at_call 17; refine (cursor_Err g s q2 q3 _ (by exact hc4)).mono ?_; rintro e5 w5 ⟨rfl, rfl⟩)
            | (go_at_call 18; refine (cursor_At g s q2 q3 _ (by exact hc4)).mono ?_; rintro e5 w5 ⟨rfl, rfl⟩)))
        all_goals go_wp2
        all_goals exact ⟨⟨k + 1, q2, q3, by omega, rfl, hat, hc4, hr4, hb4⟩, by simp [intOf]; omega⟩
      · obtain rfl : k = n := by omega
        go_wp2_with fail
        refine fixed_Take_nil _ ?_
        intro w5 hb5
        go_wp2
        go_ret
        exact ⟨rfl, hb.trans (hb5.mono hb.size)⟩
end Go.Proofs.Ytcfighedlbojeaa
