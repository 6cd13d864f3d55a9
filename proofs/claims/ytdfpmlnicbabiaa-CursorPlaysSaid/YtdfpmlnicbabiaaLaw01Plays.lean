/- The walk of CursorPlays: whatever is read, the cursor answers as the document's own. -/
import Derived.Test.YtdfpmlnicbabiaaLaw01
import Derived.Test.YtdfpmlnicbabiaaRef01
import Derived.Deep.RegionHeld3
namespace Go.Proofs.Ytdfpmlnicbabiaa
open Go.RowKit

/-- The acts lie in memory from address A on, two ints each. -/
def ActsAt (w : World) (A : Option Addr) (n : Nat) (l : List (Int × Int)) : Prop :=
  l.length = n ∧ ∀ i, i < n → ∃ ad, A = some ad ∧ w.cell? (ad.add (i * 2)) = some (.int .i64 (l.getD i (0, 0)).1) ∧ w.cell? ⟨(ad.add (i * 2)).block, (ad.add (i * 2)).off + 1, none⟩ = some (.int .i64 (l.getD i (0, 0)).2) ∧ ad.block < w.heap.size

def PlaysRel (W : World) (s : ByteArray) (g r n : Nat) (i : Value) (w : World) : Prop :=
  ∃ (k at_ : Nat) (err : Int), k ≤ n ∧ i = .int .i64 (k : Int) ∧ Cur w g s at_ err ∧ RCur w r s at_ err ∧ at_ ≤ s.size ∧ Below W.heap.size W w

set_option maxHeartbeats 4000000 in
set_option maxRecDepth 100000 in
theorem law01_plays (s : ByteArray) (A : Option Addr) (n c : Nat) (l : List (Int × Int)) (w : World) (hs : s.size ≤ 140737488351232) (hn : n ≤ 140737488351232) (hl : ActsAt w A n l) :
    Calls Try.prog 7 #[.string s, .slice A n c] w fun e w' => e = .returned (.bool true) ∧ Below w.heap.size w w' := by
  have hs63 : s.size ≤ 9223372036854775807 := by omega
  go_enter Try.func7, Try.ntmps7
  go_wp2_with fail
  refine (law01_awake w).mono ?_
  rintro e w0 ⟨rfl, hb0⟩
  by_cases hlen : s.size ≤ 200
  · by_cases hln : n ≤ 60
    · go_wp2_with fail
      refine cursor_New _ _ ?_
      intro g w1 hc1 hg hb1
      have hb1 := hb0.trans (hb1.mono hb0.size)
      go_wp2_with fail
      have hr2 : RCur (w1.alloc (.cells #[.string s, .int .i64 0, .int .i64 0] 58)) w1.heap.size s 0 0 := Blk.new _ _ _
      have hc2 : Cur (w1.alloc (.cells #[.string s, .int .i64 0, .int .i64 0] 58)) g s 0 0 := Blk.alloc hc1 _
      have hb2 := hb1.alloc hb1.size (.cells #[.string s, .int .i64 0, .int .i64 0] 58)
      have hrs : w.heap.size ≤ w1.heap.size := hb1.size
      generalize (w1.alloc (.cells #[.string s, .int .i64 0, .int .i64 0] 58)) = w2 at *
      generalize w1.heap.size = r at *
      go_loopw [7] (PlaysRel w s g r n) (fun i _ => n - (intOf i).toNat)
      case atStart => exact ⟨0, 0, 0, Nat.zero_le _, rfl, hc2, hr2, Nat.zero_le _, hb2⟩
      case round =>
        obtain ⟨k, at_, err, hk, rfl, hc, hr, hat, hb⟩ := hrel
        by_cases hlt : k < n
        · obtain ⟨ad, rfl, ha1, ha2, ha3⟩ := hl.2 k hlt
          have ha1 := (hb.cell (p := ad.add (k * 2)) (by rw [add_block]; exact ha3)).trans ha1
          have ha2 := (hb.cell (p := ⟨(ad.add (k * 2)).block, (ad.add (k * 2)).off + 1, none⟩) (by rw [add_block]; exact ha3)).trans ha2
          generalize (l.getD k (0, 0)).1 = K0 at *
          generalize (l.getD k (0, 0)).2 = N0 at *
          by_cases k0 : K0 = 0
          · subst k0
            go_wp2_with fail
            have hA := Blk.new wr 60 #[.int .i64 0, .int .i64 N0]
            have hc' : Cur (wr.alloc (.cells #[.int .i64 0, .int .i64 N0] 60)) g s at_ err := Blk.alloc hc _
            have hr' : RCur (wr.alloc (.cells #[.int .i64 0, .int .i64 N0] 60)) r s at_ err := Blk.alloc hr _
            have hb' := hb.alloc hb.size (.cells #[.int .i64 0, .int .i64 N0] 60)
            generalize (wr.alloc (.cells #[.int .i64 0, .int .i64 N0] 60)) = wa at *
            generalize wr.heap.size = a at *
            have hgr : ¬ r = g := Blk.ne hr' hc' (by decide)
            have hgr' : ¬ g = r := fun e => hgr e.symm
            have hag : ¬ a = g := Blk.ne hA hc' (by decide)
            have har : ¬ a = r := Blk.ne hA hr' (by decide)
            obtain ⟨q1, q2, q3, hq⟩ : ∃ q1 q2 q3, byteR s at_ err = (q1, q2, q3) := ⟨_, _, _, rfl⟩
            have hrng := byteR_range s at_ err
            have hatF := byteR_at (err := err) hat
            rw [hq] at hrng hatF
            obtain ⟨hq0, hq1⟩ := hrng
            have HQ := Lib.hid hq
            clear hq
            dsimp only at hatF hq0 hq1
            refine cursor_Byte g s at_ err _ hc' hat hs63 ?_
            rw [HQ.out]; dsimp only
            intro w3 hc3 hx3
            have hr3 := hr'.ext hx3 hgr
            have hA3 := hA.ext hx3 hag
            have hb3 := below_self hb' (Nat.le_refl _) hx3 (Nat.le_trans hb0.size hg)
            go_wp2_with fail
            refine ref01_Byte r s at_ err _ hr3 hat hs ?_
            rw [HQ.out]; dsimp only
            intro w4 hrF hx4
            have hcF := hc3.ext hx4 hgr'
            have hAF := hA3.ext hx4 har
            have hbF := below_self hb3 (Nat.le_refl _) hx4 hrs
            clear hc3 hx3 hr3 hA3 hb3 hx4 hr' hc' hb' hA
            obtain ⟨c0, c1, c2, _, _⟩ := hcF.cells
            obtain ⟨r0, r1, r2, _, _⟩ := hrF.cells
            have aN : w4.cell? ⟨a, 1, none⟩ = some (.int .i64 N0) := (Blk.cell hAF 1).trans rfl
            have hat0 : (0 : Int) ≤ (q2 : Int) := Int.natCast_nonneg _
            have hat1 : (q2 : Int) ≤ (s.size : Int) := by omega
            go_wp2_with fail
            go_quiet ((first
              | (go_at_call 42; exact quiet_l (cursor_Err g s q2 q3 _ (by exact hcF)))
              | (go_at_call 18; exact quiet_l (cursor_At g s q2 q3 _ (by exact hcF)))
              | (go_at_call 20; exact quiet_d (cursor_Left g s q2 q3 _ (by exact hcF) hatF hs63))
              | (go_at_call 43; exact quiet_d (cursor_Ahead g s q2 q3 _ _ (by exact hcF) hatF hs63))
              | (go_at_call 44; exact quiet_l (law01_ahead_at s q2 _ _ hatF hs63))))
            go_wp2
            go_roundw
            case rel => exact ⟨k + 1, q2, q3, by omega, by go_num, hcF, hrF, hatF, below_drewN hbF _⟩
            case measure => simp [intOf]; omega
          · by_cases k1 : K0 = 1
            · subst k1
              go_wp2_with fail
              have hA := Blk.new wr 60 #[.int .i64 1, .int .i64 N0]
              have hc' : Cur (wr.alloc (.cells #[.int .i64 1, .int .i64 N0] 60)) g s at_ err := Blk.alloc hc _
              have hr' : RCur (wr.alloc (.cells #[.int .i64 1, .int .i64 N0] 60)) r s at_ err := Blk.alloc hr _
              have hb' := hb.alloc hb.size (.cells #[.int .i64 1, .int .i64 N0] 60)
              generalize (wr.alloc (.cells #[.int .i64 1, .int .i64 N0] 60)) = wa at *
              generalize wr.heap.size = a at *
              have hgr : ¬ r = g := Blk.ne hr' hc' (by decide)
              have hgr' : ¬ g = r := fun e => hgr e.symm
              have hag : ¬ a = g := Blk.ne hA hc' (by decide)
              have har : ¬ a = r := Blk.ne hA hr' (by decide)
              obtain ⟨q1, q2, q3, hq⟩ : ∃ q1 q2 q3, bytesR s at_ err N0 = (q1, q2, q3) := ⟨_, _, _, rfl⟩
              have hatF := bytesR_at (err := err) (n := N0) hat
              rw [hq] at hatF
              have HQ := Lib.hid hq
              clear hq
              dsimp only at hatF
              have aN0 : wa.cell? ⟨a, 1, none⟩ = some (.int .i64 N0) := (Blk.cell hA 1).trans rfl
              go_region_held3 (fun w' => w'.cell? ⟨a, 1, none⟩ = some (.int .i64 N0))
                (first
                  | go_keep
                  | exact (Blk.cell hA3 1).trans rfl
                  | exact (Blk.cell hAF 1).trans rfl)
                ((first
                  | (go_at_call 17; refine cursor_Bytes g s at_ err N0 _ (by exact hc') hat hs63 ?_; rw [HQ.out]; dsimp only; intro w3 hc3 hx3; have hx3 := hx3.undrew1; have hr3 := RCur.ext (by exact hr') hx3 hgr; have hA3 := Blk.ext (by exact hA) hx3 hag; have hb3 := below_self (by exact hb') (Nat.le_refl _) hx3 (Nat.le_trans hb0.size hg))
                  | (go_at_call 38; refine ref01_Bytes r s at_ err N0 _ (by exact hr3) hat hs ?_; rw [HQ.out]; dsimp only; intro w4 hrF hx4; have hcF := Cur.ext (by exact hc3) hx4 hgr'; have hAF := Blk.ext (by exact hA3) hx4 har; have hbF := below_self (by exact hb3) (Nat.le_refl _) hx4 hrs)))
              clear hc3 hr3 hA3 hb3 hr' hc' hb' hA aN0
              obtain ⟨c0, c1, c2, _, _⟩ := hcF.cells
              obtain ⟨r0, r1, r2, _, _⟩ := hrF.cells
              have aN : w4.cell? ⟨a, 1, none⟩ = some (.int .i64 N0) := (Blk.cell hAF 1).trans rfl
              have hat0 : (0 : Int) ≤ (q2 : Int) := Int.natCast_nonneg _
              have hat1 : (q2 : Int) ≤ (s.size : Int) := by omega
              go_wp2_with fail
              go_quiet ((first
                | (go_at_call 42; exact quiet_l (cursor_Err g s q2 q3 _ (by exact hcF)))
                | (go_at_call 18; exact quiet_l (cursor_At g s q2 q3 _ (by exact hcF)))
                | (go_at_call 20; exact quiet_d (cursor_Left g s q2 q3 _ (by exact hcF) hatF hs63))
                | (go_at_call 43; exact quiet_d (cursor_Ahead g s q2 q3 _ _ (by exact hcF) hatF hs63))
                | (go_at_call 44; exact quiet_l (law01_ahead_at s q2 _ _ hatF hs63))))
              go_wp2
              go_roundw
              case rel => exact ⟨k + 1, q2, q3, by omega, by go_num, hcF, hrF, hatF, below_drewN hbF _⟩
              case measure => simp [intOf]; omega
            · by_cases k2 : K0 = 2
              · subst k2
                go_wp2_with fail
                have hA := Blk.new wr 60 #[.int .i64 2, .int .i64 N0]
                have hc' : Cur (wr.alloc (.cells #[.int .i64 2, .int .i64 N0] 60)) g s at_ err := Blk.alloc hc _
                have hr' : RCur (wr.alloc (.cells #[.int .i64 2, .int .i64 N0] 60)) r s at_ err := Blk.alloc hr _
                have hb' := hb.alloc hb.size (.cells #[.int .i64 2, .int .i64 N0] 60)
                generalize (wr.alloc (.cells #[.int .i64 2, .int .i64 N0] 60)) = wa at *
                generalize wr.heap.size = a at *
                have hgr : ¬ r = g := Blk.ne hr' hc' (by decide)
                have hgr' : ¬ g = r := fun e => hgr e.symm
                have hag : ¬ a = g := Blk.ne hA hc' (by decide)
                have har : ¬ a = r := Blk.ne hA hr' (by decide)
                refine cursor_Fail g s at_ err N0 _ hc' ?_
                intro w3 hc3 hx3
                have hr3 := hr'.ext hx3 hgr
                have hA3 := hA.ext hx3 hag
                have hb3 := below_self hb' (Nat.le_refl _) hx3 (Nat.le_trans hb0.size hg)
                have aN3 : w3.cell? ⟨a, 1, none⟩ = some (.int .i64 N0) := (Blk.cell hA3 1).trans rfl
                go_wp2_with fail
                refine ref01_Fail r s at_ err N0 _ hr3 ?_
                intro w4 hrF hx4
                have hcF := hc3.ext hx4 hgr'
                have hAF := hA3.ext hx4 har
                have hbF := below_self hb3 (Nat.le_refl _) hx4 hrs
                clear hc3 hx3 hr3 hA3 hb3 hx4 hr' hc' hb' hA aN3
                obtain ⟨q2, hq2⟩ : ∃ q2, q2 = at_ := ⟨_, rfl⟩; subst hq2
                have hatF := hat
                generalize (if err = 0 then N0 else err) = q3 at *
                obtain ⟨c0, c1, c2, _, _⟩ := hcF.cells
                obtain ⟨r0, r1, r2, _, _⟩ := hrF.cells
                have aN : w4.cell? ⟨a, 1, none⟩ = some (.int .i64 N0) := (Blk.cell hAF 1).trans rfl
                have hat0 : (0 : Int) ≤ (q2 : Int) := Int.natCast_nonneg _
                have hat1 : (q2 : Int) ≤ (s.size : Int) := by omega
                go_wp2_with fail
                go_quiet ((first
                  | (go_at_call 42; exact quiet_l (cursor_Err g s q2 q3 _ (by exact hcF)))
                  | (go_at_call 18; exact quiet_l (cursor_At g s q2 q3 _ (by exact hcF)))
                  | (go_at_call 20; exact quiet_d (cursor_Left g s q2 q3 _ (by exact hcF) hatF hs63))
                  | (go_at_call 43; exact quiet_d (cursor_Ahead g s q2 q3 _ _ (by exact hcF) hatF hs63))
                  | (go_at_call 44; exact quiet_l (law01_ahead_at s q2 _ _ hatF hs63))))
                go_wp2
                go_roundw
                case rel => exact ⟨k + 1, q2, q3, by omega, by go_num, hcF, hrF, hatF, below_drewN hbF _⟩
                case measure => simp [intOf]; omega
              · by_cases k3 : K0 = 3
                · subst k3
                  go_wp2_with fail
                  have hA := Blk.new wr 60 #[.int .i64 3, .int .i64 N0]
                  have hc' : Cur (wr.alloc (.cells #[.int .i64 3, .int .i64 N0] 60)) g s at_ err := Blk.alloc hc _
                  have hr' : RCur (wr.alloc (.cells #[.int .i64 3, .int .i64 N0] 60)) r s at_ err := Blk.alloc hr _
                  have hb' := hb.alloc hb.size (.cells #[.int .i64 3, .int .i64 N0] 60)
                  generalize (wr.alloc (.cells #[.int .i64 3, .int .i64 N0] 60)) = wa at *
                  generalize wr.heap.size = a at *
                  have hgr : ¬ r = g := Blk.ne hr' hc' (by decide)
                  have hgr' : ¬ g = r := fun e => hgr e.symm
                  have hag : ¬ a = g := Blk.ne hA hc' (by decide)
                  have har : ¬ a = r := Blk.ne hA hr' (by decide)
                  refine cursor_End g s at_ err _ hc' hat hs63 ?_
                  intro w3 hc3 hx3
                  have hr3 := hr'.ext hx3 hgr
                  have hA3 := hA.ext hx3 hag
                  have hb3 := below_self hb' (Nat.le_refl _) hx3 (Nat.le_trans hb0.size hg)
                  go_wp2_with fail
                  refine ref01_End r s at_ err _ hr3 ?_
                  intro w4 hrF hx4
                  have hcF := hc3.ext hx4 hgr'
                  have hAF := hA3.ext hx4 har
                  have hbF := below_self hb3 (Nat.le_refl _) hx4 hrs
                  clear hc3 hx3 hr3 hA3 hb3 hx4 hr' hc' hb' hA
                  obtain ⟨q2, hq2⟩ : ∃ q2, q2 = at_ := ⟨_, rfl⟩; subst hq2
                  have hatF := hat
                  generalize endR s q2 err = q3 at *
                  obtain ⟨c0, c1, c2, _, _⟩ := hcF.cells
                  obtain ⟨r0, r1, r2, _, _⟩ := hrF.cells
                  have aN : w4.cell? ⟨a, 1, none⟩ = some (.int .i64 N0) := (Blk.cell hAF 1).trans rfl
                  have hat0 : (0 : Int) ≤ (q2 : Int) := Int.natCast_nonneg _
                  have hat1 : (q2 : Int) ≤ (s.size : Int) := by omega
                  go_wp2_with fail
                  go_quiet ((first
                    | (go_at_call 42; exact quiet_l (cursor_Err g s q2 q3 _ (by exact hcF)))
                    | (go_at_call 18; exact quiet_l (cursor_At g s q2 q3 _ (by exact hcF)))
                    | (go_at_call 20; exact quiet_d (cursor_Left g s q2 q3 _ (by exact hcF) hatF hs63))
                    | (go_at_call 43; exact quiet_d (cursor_Ahead g s q2 q3 _ _ (by exact hcF) hatF hs63))
                    | (go_at_call 44; exact quiet_l (law01_ahead_at s q2 _ _ hatF hs63))))
                  go_wp2
                  go_roundw
                  case rel => exact ⟨k + 1, q2, q3, by omega, by go_num, hcF, hrF, hatF, below_drewN hbF _⟩
                  case measure => simp [intOf]; omega
                · have b0 : (K0 == 0) = false := by simpa using k0
                  have b1 : (K0 == 1) = false := by simpa using k1
                  have b2 : (K0 == 2) = false := by simpa using k2
                  have b3 : (K0 == 3) = false := by simpa using k3
                  go_wp2_with fail
                  have hA := Blk.new wr 60 #[.int .i64 K0, .int .i64 N0]
                  have hc' : Cur (wr.alloc (.cells #[.int .i64 K0, .int .i64 N0] 60)) g s at_ err := Blk.alloc hc _
                  have hr' : RCur (wr.alloc (.cells #[.int .i64 K0, .int .i64 N0] 60)) r s at_ err := Blk.alloc hr _
                  have hb' := hb.alloc hb.size (.cells #[.int .i64 K0, .int .i64 N0] 60)
                  generalize (wr.alloc (.cells #[.int .i64 K0, .int .i64 N0] 60)) = wa at *
                  generalize wr.heap.size = a at *
                  have hgr : ¬ r = g := Blk.ne hr' hc' (by decide)
                  have hgr' : ¬ g = r := fun e => hgr e.symm
                  have hag : ¬ a = g := Blk.ne hA hc' (by decide)
                  have har : ¬ a = r := Blk.ne hA hr' (by decide)
                  obtain ⟨q2, hq2⟩ : ∃ q2, q2 = at_ := ⟨_, rfl⟩; subst hq2
                  obtain ⟨q3, hq3⟩ : ∃ q3, q3 = err := ⟨_, rfl⟩; subst hq3
                  have hcF := hc'
                  have hrF := hr'
                  have hAF := hA
                  have hbF := hb'
                  have hatF := hat
                  clear hr' hc' hb' hA
                  obtain ⟨c0, c1, c2, _, _⟩ := hcF.cells
                  obtain ⟨r0, r1, r2, _, _⟩ := hrF.cells
                  have aN : wa.cell? ⟨a, 1, none⟩ = some (.int .i64 N0) := (Blk.cell hAF 1).trans rfl
                  have hat0 : (0 : Int) ≤ (q2 : Int) := Int.natCast_nonneg _
                  have hat1 : (q2 : Int) ≤ (s.size : Int) := by omega
                  go_wp2_with fail
                  go_quiet ((first
                    | (go_at_call 42; exact quiet_l (cursor_Err g s q2 q3 _ (by exact hcF)))
                    | (go_at_call 18; exact quiet_l (cursor_At g s q2 q3 _ (by exact hcF)))
                    | (go_at_call 20; exact quiet_d (cursor_Left g s q2 q3 _ (by exact hcF) hatF hs63))
                    | (go_at_call 43; exact quiet_d (cursor_Ahead g s q2 q3 _ _ (by exact hcF) hatF hs63))
                    | (go_at_call 44; exact quiet_l (law01_ahead_at s q2 _ _ hatF hs63))))
                  go_wp2
                  go_roundw
                  case rel => exact ⟨k + 1, q2, q3, by omega, by go_num, hcF, hrF, hatF, below_drewN hbF _⟩
                  case measure => simp [intOf]; omega
        · obtain rfl : k = n := by omega
          go_wp2
          go_ret
          exact ⟨rfl, hb⟩
    · go_wp2
      all_goals go_ret
      all_goals exact ⟨rfl, hb0⟩
  · go_wp2
    go_ret
    exact ⟨rfl, hb0⟩
end Go.Proofs.Ytdfpmlnicbabiaa
