/- PairsTakes' walk. -/
import Derived.Deep.RegionWith
import Derived.Deep.DrawnRows
import Derived.Deep.DeepCutAuto
import Derived.Test.YtgjiedjfplbipaaPairRead
import Derived.Test.YtgjiedjfplbipaaPairRTake
import Derived.Test.YtgjiedjfplbipaaPairValue
import Derived.Test.YtgjiedjfplbipaaHeld
namespace Go.Proofs.Ytgjiedjfplbipaa
open Go.RowKit Go.Lib
section
def TkRel (W : World) (s : ByteArray) (c z m : Nat) (i : Value) (w : World) : Prop :=
  ∃ (j a : Nat) (e : Int), i = .int .i64 (j : Int) ∧ j ≤ m ∧ a ≤ s.size ∧ Cur w c s a e ∧ RCur w z s a e ∧ Below W.heap.size W w
set_option maxHeartbeats 4000000 in
set_option maxRecDepth 100000 in
theorem law14_takes (s : ByteArray) (many : Int) (w : World) (hs : s.size ≤ 140737488351232) (hm0 : 0 ≤ many) (hm1 : many < 256) :
    Calls Try.prog 4 #[.string s, .int .u8 many] w fun e w' => e = .returned (.bool true) ∧ Below w.heap.size w w' := by
  go_enter Try.func4, Try.ntmps4
  go_wp2_with fail
  refine law14_awake w ?_
  intro w1 hb1
  by_cases hbig : 3000 < s.size
  · have q1 : (3000 : Int) < (s.size : Int) := by omega
    have q2 : decide ((3000 : Int) < (s.size : Int)) = true := decide_eq_true q1
    go_wp2_with fail
    first | exact ⟨rfl, hb1⟩ | (go_ret; exact ⟨rfl, hb1⟩)
  have q1 : ¬ (3000 : Int) < (s.size : Int) := by omega
  have q2 : decide ((3000 : Int) < (s.size : Int)) = false := decide_eq_false q1
  go_wp2_with fail
  refine cursor_New s w1 ?_
  intro c w7 hc7 hcw hb7
  have hcx : c ≠ w7.heap.size := Nat.ne_of_lt (Blk.lt hc7)
  have hcw2 : w.heap.size ≤ c := Nat.le_trans hb1.size hcw
  replace hb7 := hb1.trans (hb7.mono hb1.size)
  clear q1 q2 hb1
  go_upto_region 6 with fail
  have hx8 : RCur (w7.alloc (.cells #[.string s, .int .i64 0, .int .i64 0] 40)) w7.heap.size s 0 0 := Blk.new _ _ _
  have hc8 : Cur (w7.alloc (.cells #[.string s, .int .i64 0, .int .i64 0] 40)) c s 0 0 := Blk.alloc hc7 _
  have hzw : w.heap.size ≤ w7.heap.size := hb7.size
  replace hb7 := hb7.alloc hb7.size (.cells #[.string s, .int .i64 0, .int .i64 0] 40)
  clear hc7
  generalize (w7.alloc (.cells #[.string s, .int .i64 0, .int .i64 0] 40)) = w8 at *
  generalize w7.heap.size = z at *
  obtain ⟨m, hm⟩ : ∃ m : Nat, many % 5 + 1 = (m : Int) := ⟨(many % 5 + 1).toNat, by omega⟩
  have hmk : m ≤ 5 := by omega
  have hw1 : wrap64 many = many := by unfold wrap64; omega
  have hw2 : many.tmod 5 = many % 5 := Int.tmod_eq_emod_of_nonneg hm0
  have hw3 : wrap64 (many % 5 + 1) = (m : Int) := by rw [hm]; unfold wrap64; omega
  have hw4 : wrap64 (many % 5) = many % 5 := by unfold wrap64; omega
  have hw5 : IntKind.i64.wrap many = many := by rw [IntKind.wrap_i64]; omega
  clear hm0 hm1
  go_wp2_with fail
  go_loopw [7] (TkRel w s c z m) (fun i _ => m - (RowKit.intOf i).toNat)
  case atStart => exact ⟨0, 0, 0, rfl, Nat.zero_le _, Nat.zero_le _, hc8, hx8, hb7⟩
  case round =>
    clear hc8 hx8 hb7
    obtain ⟨j, a, e, rfl, hj, ha, hcr, hzr, hbw⟩ := hrel
    have HMK := Lib.hid hmk
    by_cases hlt : j < m
    · have hj1 : (j : Int) < (m : Int) := by clear hw1 hw2 hw3 hw4 hw5; omega
      have hjd : decide ((j : Int) < (m : Int)) = true := decide_eq_true hj1
      go_wp2_with fail
      clear hw1 hw2 hw3 hw4 hw5 hm
      refine pairs_Take c s a e wr hcr ha hs ?_
      have hrt := fun w h R => ref14_Take z s a e w h ha hs (R := R)
      have hck := pairsT_check s a e
      have hat : ∀ x, (pairsT s a e).2.1 = x → True := fun _ _ => trivial
      generalize pairsT s a e = pt at *
      obtain ⟨l, a3, e3⟩ := pt
      dsimp only at hrt hck ⊢
      clear hat
      have HCK := Lib.hid hck
      clear hck
      intro A1 c1 w9 h3 hl3 hA3 hc9 ha3 hx9
      have hz9 := Blk.ext hzr hx9 (fun e => hcx e.symm)
      replace hbw := below_ext hbw (Nat.le_refl _) hx9 (fun b e => e ▸ hcw2)
      have hzl := Blk.lt hzr
      go_upto_region 10 with fail
      go_cut [56] (fun s56 wx => s56 = .bool false ∧ Cur wx c s a3 e3 ∧ RCur wx z s a3 e3 ∧ Below w.heap.size w wx)
      case first =>
        refine wp_region_held_drew (S := fun _ => True) (by kernel_rfl) trivial (fun hHeld => ?_)
        replace h3 : Row w9.drew _ _ := h3
        replace hz9 : RCur w9.drew z s a e := hz9
        replace hc9 : Cur w9.drew c s a3 e3 := hc9
        replace hbw : Below w.heap.size w w9.drew := below_drewN hbw 1
        have hsz9 : wr.heap.size ≤ w9.drew.heap.size := hx9.size
        generalize w9.drew = w10 at *
        refine held_take (i := 0) (v := ?_) rfl (by kernel_rfl) (by kernel_rfl) (by kernel_rfl) (fun _ _ _ h => h) (by rfl) (by assumption) (fun w hSw => ?_) ?_
        rotate_left
        · (try dsimp only at hSw)
          go_simp
          try with_reducible rfl
        try simp only [Act.put, List.setIfInBounds_toArray, List.set_cons_zero, List.set_cons_succ]
        refine held_take (i := 1) (v := ?_) rfl (by kernel_rfl) (by kernel_rfl) (by kernel_rfl) (fun _ _ _ h => h) (by rfl) (by assumption) (fun w hSw => ?_) ?_
        rotate_left
        · (try dsimp only at hSw)
          go_simp
          try with_reducible rfl
        try simp only [Act.put, List.setIfInBounds_toArray, List.set_cons_zero, List.set_cons_succ]
        refine wpAnyH_ready (rs := [2]) (by kernel_rfl) (by simp) ?_
        refine held_cons (i := 2) rfl (by rfl) (fun K hK => ?_) AllReadyH.nil
        go_simp
        refine hrt w10 hz9 _ ?_
        intro A5 c5 w11 h5 _ _ hz11 _ hx11
        have hc11 := Blk.ext hc9 hx11 (fun e => hcx e)
        have hb11 := below_ext hbw (Nat.le_refl _) hx11 (fun b e => e ▸ hzw)
        replace h3 := h3.ext hx11 (fun ad e _ hS => by have := hA3 ad e; omega)
        clear hrt hz9 hc9 hbw
        dsimp only
        refine hK.out _ _ trivial (fun hHeld => ?_)
        clear hK K
        try simp only [Act.put, List.setIfInBounds_toArray, List.set_cons_zero, List.set_cons_succ]
        refine wpAnyH_ready (rs := [3]) (by kernel_rfl) (by simp) ?_
        refine held_cons (i := 3) rfl (by rfl) (fun K hK => ?_) AllReadyH.nil
        go_simp
        refine ref14_Same l l A1 A5 c1 c5 w11 h3 h5 (by omega) ?_
        rintro w12 n rfl
        rw [decide_eq_true rfl]
        replace h3 : Row (w11.drewN n) _ _ := h3
        replace hz11 : RCur (w11.drewN n) z s a3 e3 := hz11
        replace hc11 : Cur (w11.drewN n) c s a3 e3 := hc11
        replace hb11 := below_drewN hb11 n
        clear h5
        generalize w11.drewN n = w12 at *
        obtain ⟨v0, v1, v2, _, _⟩ := RCur.cells hz11
        dsimp only
        refine hK.out _ _ trivial (fun hHeld => ?_)
        clear hK K
        try simp only [Act.put, List.setIfInBounds_toArray, List.set_cons_zero, List.set_cons_succ]
        refine held_take (i := 4) (v := ?_) rfl (by kernel_rfl) (by kernel_rfl) (by kernel_rfl) (fun _ _ _ h => h) (by rfl) (by assumption) (fun w hSw => ?_) ?_
        rotate_left
        · (try dsimp only at hSw)
          go_simp
          try with_reducible rfl
        try simp only [Act.put, List.setIfInBounds_toArray, List.set_cons_zero, List.set_cons_succ]
        refine held_take (i := 5) (v := ?_) rfl (by kernel_rfl) (by kernel_rfl) (by kernel_rfl) (fun _ _ _ h => h) (by rfl) (by assumption) (fun w hSw => ?_) ?_
        rotate_left
        · (try dsimp only at hSw)
          go_simp
          try with_reducible rfl
        try simp only [Act.put, List.setIfInBounds_toArray, List.set_cons_zero, List.set_cons_succ]
        refine held_take (i := 6) (v := ?_) rfl (by kernel_rfl) (by kernel_rfl) (by kernel_rfl) (fun _ _ _ h => h) (by rfl) (by assumption) (fun w hSw => ?_) ?_
        rotate_left
        · (try dsimp only at hSw)
          go_simp
          try with_reducible rfl
        try simp only [Act.put, List.setIfInBounds_toArray, List.set_cons_zero, List.set_cons_succ]
        refine held_take (i := 8) (v := ?_) rfl (by kernel_rfl) (by kernel_rfl) (by kernel_rfl) (fun _ _ _ h => h) (by rfl) (by assumption) (fun w hSw => ?_) ?_
        rotate_left
        · (try dsimp only at hSw)
          go_simp
          try with_reducible rfl
        try simp only [Act.put, List.setIfInBounds_toArray, List.set_cons_zero, List.set_cons_succ]
        refine held_take (i := 9) (v := ?_) rfl (by kernel_rfl) (by kernel_rfl) (by kernel_rfl) (fun _ _ _ h => h) (by rfl) (by assumption) (fun w hSw => ?_) ?_
        rotate_left
        · (try dsimp only at hSw)
          go_simp
          try with_reducible rfl
        try simp only [Act.put, List.setIfInBounds_toArray, List.set_cons_zero, List.set_cons_succ]
        refine held_take (i := 10) (v := ?_) rfl (by kernel_rfl) (by kernel_rfl) (by kernel_rfl) (fun _ _ _ h => h) (by rfl) (by assumption) (fun w hSw => ?_) ?_
        rotate_left
        · (try dsimp only at hSw)
          go_simp
          try with_reducible rfl
        try simp only [Act.put, List.setIfInBounds_toArray, List.set_cons_zero, List.set_cons_succ]
        refine wpAnyH_ready (rs := [7, 11]) (by kernel_rfl) (by simp) ?_
        refine held_cons (i := 7) rfl (by rfl) (fun K hK => ?_) ?_
        · go_simp
          refine (cursor_Err c s a3 e3 _ hc11).mono ?_
          rintro y w' ⟨rfl, rfl⟩
          dsimp only
          refine hK.out _ _ trivial (fun hHeld => ?_)
          clear hK K
          try simp only [Act.put, List.setIfInBounds_toArray, List.set_cons_zero, List.set_cons_succ]
          refine wpAnyH_ready (rs := [11]) (by kernel_rfl) (by simp) ?_
          refine held_cons (i := 11) rfl (by rfl) (fun K hK => ?_) AllReadyH.nil
          go_simp
          refine hK.out _ _ trivial (fun hHeld => ?_)
          clear hK K
          try simp only [Act.put, List.setIfInBounds_toArray, List.set_cons_zero, List.set_cons_succ]
          refine held_take (i := 12) (v := ?_) rfl (by kernel_rfl) (by kernel_rfl) (by kernel_rfl) (fun _ _ _ h => h) (by rfl) (by assumption) (fun w hSw => ?_) ?_
          rotate_left
          · (try dsimp only at hSw)
            go_simp
            try with_reducible rfl
          try simp only [Act.put, List.setIfInBounds_toArray, List.set_cons_zero, List.set_cons_succ]
          refine held_take (i := 13) (v := ?_) rfl (by kernel_rfl) (by kernel_rfl) (by kernel_rfl) (fun _ _ _ h => h) (by rfl) (by assumption) (fun w hSw => ?_) ?_
          rotate_left
          · (try dsimp only at hSw)
            go_simp
            try with_reducible rfl
          try simp only [Act.put, List.setIfInBounds_toArray, List.set_cons_zero, List.set_cons_succ]
          refine held_take (i := 14) (v := ?_) rfl (by kernel_rfl) (by kernel_rfl) (by kernel_rfl) (fun _ _ _ h => h) (by rfl) (by assumption) (fun w hSw => ?_) ?_
          rotate_left
          · (try dsimp only at hSw)
            go_simp
            try with_reducible rfl
          try simp only [Act.put, List.setIfInBounds_toArray, List.set_cons_zero, List.set_cons_succ]
          refine held_take (i := 15) (v := ?_) rfl (by kernel_rfl) (by kernel_rfl) (by kernel_rfl) (fun _ _ _ h => h) (by rfl) (by assumption) (fun w hSw => ?_) ?_
          rotate_left
          · (try dsimp only at hSw)
            go_simp
            try with_reducible rfl
          try simp only [Act.put, List.setIfInBounds_toArray, List.set_cons_zero, List.set_cons_succ]
          refine held_take (i := 17) (v := ?_) rfl (by kernel_rfl) (by kernel_rfl) (by kernel_rfl) (fun _ _ _ h => h) (by rfl) (by assumption) (fun w hSw => ?_) ?_
          rotate_left
          · (try dsimp only at hSw)
            go_simp
            try with_reducible rfl
          try simp only [Act.put, List.setIfInBounds_toArray, List.set_cons_zero, List.set_cons_succ]
          refine held_take (i := 18) (v := ?_) rfl (by kernel_rfl) (by kernel_rfl) (by kernel_rfl) (fun _ _ _ h => h) (by rfl) (by assumption) (fun w hSw => ?_) ?_
          rotate_left
          · (try dsimp only at hSw)
            go_simp
            try with_reducible rfl
          try simp only [Act.put, List.setIfInBounds_toArray, List.set_cons_zero, List.set_cons_succ]
          refine held_take (i := 19) (v := ?_) rfl (by kernel_rfl) (by kernel_rfl) (by kernel_rfl) (fun _ _ _ h => h) (by rfl) (by assumption) (fun w hSw => ?_) ?_
          rotate_left
          · (try dsimp only at hSw)
            go_simp
            try with_reducible rfl
          try simp only [Act.put, List.setIfInBounds_toArray, List.set_cons_zero, List.set_cons_succ]
          refine wpAnyH_ready (rs := [16, 20]) (by kernel_rfl) (by simp) ?_
          refine held_cons (i := 16) rfl (by rfl) (fun K hK => ?_) ?_
          · go_simp
            refine (cursor_At c s a3 e3 _ hc11).mono ?_
            rintro y w' ⟨rfl, rfl⟩
            dsimp only
            refine hK.out _ _ trivial (fun hHeld => ?_)
            clear hK K
            try simp only [Act.put, List.setIfInBounds_toArray, List.set_cons_zero, List.set_cons_succ]
            refine wpAnyH_ready (rs := [20]) (by kernel_rfl) (by simp) ?_
            refine held_cons (i := 20) rfl (by rfl) (fun K hK => ?_) AllReadyH.nil
            go_simp
            refine hK.out _ _ trivial (fun hHeld => ?_)
            clear hK K
            try simp only [Act.put, List.setIfInBounds_toArray, List.set_cons_zero, List.set_cons_succ]
            refine held_take (i := 21) (v := ?_) rfl (by kernel_rfl) (by kernel_rfl) (by kernel_rfl) (fun _ _ _ h => h) (by rfl) (by assumption) (fun w hSw => ?_) ?_
            rotate_left
            · (try dsimp only at hSw)
              go_simp
              try with_reducible rfl
            try simp only [Act.put, List.setIfInBounds_toArray, List.set_cons_zero, List.set_cons_succ]
            refine held_take (i := 22) (v := ?_) rfl (by kernel_rfl) (by kernel_rfl) (by kernel_rfl) (fun _ _ _ h => h) (by rfl) (by assumption) (fun w hSw => ?_) ?_
            rotate_left
            · (try dsimp only at hSw)
              go_simp
              try with_reducible rfl
            try simp only [Act.put, List.setIfInBounds_toArray, List.set_cons_zero, List.set_cons_succ]
            refine held_take (i := 23) (v := ?_) rfl (by kernel_rfl) (by kernel_rfl) (by kernel_rfl) (fun _ _ _ h => h) (by rfl) (by assumption) (fun w hSw => ?_) ?_
            rotate_left
            · (try dsimp only at hSw)
              go_simp
              try with_reducible rfl
            try simp only [Act.put, List.setIfInBounds_toArray, List.set_cons_zero, List.set_cons_succ]
            refine held_take (i := 24) (v := ?_) rfl (by kernel_rfl) (by kernel_rfl) (by kernel_rfl) (fun _ _ _ h => h) (by rfl) (by assumption) (fun w hSw => ?_) ?_
            rotate_left
            · (try dsimp only at hSw)
              go_simp
              try with_reducible rfl
            try simp only [Act.put, List.setIfInBounds_toArray, List.set_cons_zero, List.set_cons_succ]
            refine wpAnyH_ready (rs := [25]) (by kernel_rfl) (by simp) ?_
            refine held_cons (i := 25) rfl (by rfl) (fun K hK => ?_) AllReadyH.nil
            go_simp
            refine ref14_Check l A1 c1 w12 h3 ?_
            rw [show checkL 8 (prF l) l.length = 0 from HCK.out]
            intro w13 hb13
            have hc13 : Cur w13 c s a3 e3 := Blk.below hc11 hb13 (Blk.lt hc11)
            have hz13 : RCur w13 z s a3 e3 := Blk.below hz11 hb13 (Blk.lt hz11)
            have hbf := hb11.trans (hb13.mono hb11.size)
            dsimp only
            refine hK.out _ _ trivial (fun hHeld => ?_)
            clear hK K
            try simp only [Act.put, List.setIfInBounds_toArray, List.set_cons_zero, List.set_cons_succ]
            refine held_take (i := 26) (v := ?_) rfl (by kernel_rfl) (by kernel_rfl) (by kernel_rfl) (fun _ _ _ h => h) (by rfl) (by assumption) (fun w hSw => ?_) ?_
            rotate_left
            · (try dsimp only at hSw)
              go_simp
              try with_reducible rfl
            try simp only [Act.put, List.setIfInBounds_toArray, List.set_cons_zero, List.set_cons_succ]
            refine held_take (i := 27) (v := ?_) rfl (by kernel_rfl) (by kernel_rfl) (by kernel_rfl) (fun _ _ _ h => h) (by rfl) (by assumption) (fun w hSw => ?_) ?_
            rotate_left
            · (try dsimp only at hSw)
              go_simp
              try with_reducible rfl
            try simp only [Act.put, List.setIfInBounds_toArray, List.set_cons_zero, List.set_cons_succ]
            refine wpAnyH_done (by kernel_rfl) ?_ _
            go_wp2_with fail
            go_meet
            exact ⟨rfl, hc13, hz13, hbf⟩
          · refine held_cons (i := 20) rfl (by rfl) (fun K hK => ?_) AllReadyH.nil
            go_simp
            refine hK.out _ _ trivial (fun hHeld => ?_)
            clear hK K
            try simp only [Act.put, List.setIfInBounds_toArray, List.set_cons_zero, List.set_cons_succ]
            refine wpAnyH_ready (rs := [16]) (by kernel_rfl) (by simp) ?_
            refine held_cons (i := 16) rfl (by rfl) (fun K hK => ?_) AllReadyH.nil
            go_simp
            refine (cursor_At c s a3 e3 _ hc11).mono ?_
            rintro y w' ⟨rfl, rfl⟩
            dsimp only
            refine hK.out _ _ trivial (fun hHeld => ?_)
            clear hK K
            try simp only [Act.put, List.setIfInBounds_toArray, List.set_cons_zero, List.set_cons_succ]
            refine held_take (i := 21) (v := ?_) rfl (by kernel_rfl) (by kernel_rfl) (by kernel_rfl) (fun _ _ _ h => h) (by rfl) (by assumption) (fun w hSw => ?_) ?_
            rotate_left
            · (try dsimp only at hSw)
              go_simp
              try with_reducible rfl
            try simp only [Act.put, List.setIfInBounds_toArray, List.set_cons_zero, List.set_cons_succ]
            refine held_take (i := 22) (v := ?_) rfl (by kernel_rfl) (by kernel_rfl) (by kernel_rfl) (fun _ _ _ h => h) (by rfl) (by assumption) (fun w hSw => ?_) ?_
            rotate_left
            · (try dsimp only at hSw)
              go_simp
              try with_reducible rfl
            try simp only [Act.put, List.setIfInBounds_toArray, List.set_cons_zero, List.set_cons_succ]
            refine held_take (i := 23) (v := ?_) rfl (by kernel_rfl) (by kernel_rfl) (by kernel_rfl) (fun _ _ _ h => h) (by rfl) (by assumption) (fun w hSw => ?_) ?_
            rotate_left
            · (try dsimp only at hSw)
              go_simp
              try with_reducible rfl
            try simp only [Act.put, List.setIfInBounds_toArray, List.set_cons_zero, List.set_cons_succ]
            refine held_take (i := 24) (v := ?_) rfl (by kernel_rfl) (by kernel_rfl) (by kernel_rfl) (fun _ _ _ h => h) (by rfl) (by assumption) (fun w hSw => ?_) ?_
            rotate_left
            · (try dsimp only at hSw)
              go_simp
              try with_reducible rfl
            try simp only [Act.put, List.setIfInBounds_toArray, List.set_cons_zero, List.set_cons_succ]
            refine wpAnyH_ready (rs := [25]) (by kernel_rfl) (by simp) ?_
            refine held_cons (i := 25) rfl (by rfl) (fun K hK => ?_) AllReadyH.nil
            go_simp
            refine ref14_Check l A1 c1 w12 h3 ?_
            rw [show checkL 8 (prF l) l.length = 0 from HCK.out]
            intro w13 hb13
            have hc13 : Cur w13 c s a3 e3 := Blk.below hc11 hb13 (Blk.lt hc11)
            have hz13 : RCur w13 z s a3 e3 := Blk.below hz11 hb13 (Blk.lt hz11)
            have hbf := hb11.trans (hb13.mono hb11.size)
            dsimp only
            refine hK.out _ _ trivial (fun hHeld => ?_)
            clear hK K
            try simp only [Act.put, List.setIfInBounds_toArray, List.set_cons_zero, List.set_cons_succ]
            refine held_take (i := 26) (v := ?_) rfl (by kernel_rfl) (by kernel_rfl) (by kernel_rfl) (fun _ _ _ h => h) (by rfl) (by assumption) (fun w hSw => ?_) ?_
            rotate_left
            · (try dsimp only at hSw)
              go_simp
              try with_reducible rfl
            try simp only [Act.put, List.setIfInBounds_toArray, List.set_cons_zero, List.set_cons_succ]
            refine held_take (i := 27) (v := ?_) rfl (by kernel_rfl) (by kernel_rfl) (by kernel_rfl) (fun _ _ _ h => h) (by rfl) (by assumption) (fun w hSw => ?_) ?_
            rotate_left
            · (try dsimp only at hSw)
              go_simp
              try with_reducible rfl
            try simp only [Act.put, List.setIfInBounds_toArray, List.set_cons_zero, List.set_cons_succ]
            refine wpAnyH_done (by kernel_rfl) ?_ _
            go_wp2_with fail
            go_meet
            exact ⟨rfl, hc13, hz13, hbf⟩
        · refine held_cons (i := 11) rfl (by rfl) (fun K hK => ?_) AllReadyH.nil
          go_simp
          refine hK.out _ _ trivial (fun hHeld => ?_)
          clear hK K
          try simp only [Act.put, List.setIfInBounds_toArray, List.set_cons_zero, List.set_cons_succ]
          refine wpAnyH_ready (rs := [7]) (by kernel_rfl) (by simp) ?_
          refine held_cons (i := 7) rfl (by rfl) (fun K hK => ?_) AllReadyH.nil
          go_simp
          refine (cursor_Err c s a3 e3 _ hc11).mono ?_
          rintro y w' ⟨rfl, rfl⟩
          dsimp only
          refine hK.out _ _ trivial (fun hHeld => ?_)
          clear hK K
          try simp only [Act.put, List.setIfInBounds_toArray, List.set_cons_zero, List.set_cons_succ]
          refine held_take (i := 12) (v := ?_) rfl (by kernel_rfl) (by kernel_rfl) (by kernel_rfl) (fun _ _ _ h => h) (by rfl) (by assumption) (fun w hSw => ?_) ?_
          rotate_left
          · (try dsimp only at hSw)
            go_simp
            try with_reducible rfl
          try simp only [Act.put, List.setIfInBounds_toArray, List.set_cons_zero, List.set_cons_succ]
          refine held_take (i := 13) (v := ?_) rfl (by kernel_rfl) (by kernel_rfl) (by kernel_rfl) (fun _ _ _ h => h) (by rfl) (by assumption) (fun w hSw => ?_) ?_
          rotate_left
          · (try dsimp only at hSw)
            go_simp
            try with_reducible rfl
          try simp only [Act.put, List.setIfInBounds_toArray, List.set_cons_zero, List.set_cons_succ]
          refine held_take (i := 14) (v := ?_) rfl (by kernel_rfl) (by kernel_rfl) (by kernel_rfl) (fun _ _ _ h => h) (by rfl) (by assumption) (fun w hSw => ?_) ?_
          rotate_left
          · (try dsimp only at hSw)
            go_simp
            try with_reducible rfl
          try simp only [Act.put, List.setIfInBounds_toArray, List.set_cons_zero, List.set_cons_succ]
          refine held_take (i := 15) (v := ?_) rfl (by kernel_rfl) (by kernel_rfl) (by kernel_rfl) (fun _ _ _ h => h) (by rfl) (by assumption) (fun w hSw => ?_) ?_
          rotate_left
          · (try dsimp only at hSw)
            go_simp
            try with_reducible rfl
          try simp only [Act.put, List.setIfInBounds_toArray, List.set_cons_zero, List.set_cons_succ]
          refine held_take (i := 17) (v := ?_) rfl (by kernel_rfl) (by kernel_rfl) (by kernel_rfl) (fun _ _ _ h => h) (by rfl) (by assumption) (fun w hSw => ?_) ?_
          rotate_left
          · (try dsimp only at hSw)
            go_simp
            try with_reducible rfl
          try simp only [Act.put, List.setIfInBounds_toArray, List.set_cons_zero, List.set_cons_succ]
          refine held_take (i := 18) (v := ?_) rfl (by kernel_rfl) (by kernel_rfl) (by kernel_rfl) (fun _ _ _ h => h) (by rfl) (by assumption) (fun w hSw => ?_) ?_
          rotate_left
          · (try dsimp only at hSw)
            go_simp
            try with_reducible rfl
          try simp only [Act.put, List.setIfInBounds_toArray, List.set_cons_zero, List.set_cons_succ]
          refine held_take (i := 19) (v := ?_) rfl (by kernel_rfl) (by kernel_rfl) (by kernel_rfl) (fun _ _ _ h => h) (by rfl) (by assumption) (fun w hSw => ?_) ?_
          rotate_left
          · (try dsimp only at hSw)
            go_simp
            try with_reducible rfl
          try simp only [Act.put, List.setIfInBounds_toArray, List.set_cons_zero, List.set_cons_succ]
          refine wpAnyH_ready (rs := [16, 20]) (by kernel_rfl) (by simp) ?_
          refine held_cons (i := 16) rfl (by rfl) (fun K hK => ?_) ?_
          · go_simp
            refine (cursor_At c s a3 e3 _ hc11).mono ?_
            rintro y w' ⟨rfl, rfl⟩
            dsimp only
            refine hK.out _ _ trivial (fun hHeld => ?_)
            clear hK K
            try simp only [Act.put, List.setIfInBounds_toArray, List.set_cons_zero, List.set_cons_succ]
            refine wpAnyH_ready (rs := [20]) (by kernel_rfl) (by simp) ?_
            refine held_cons (i := 20) rfl (by rfl) (fun K hK => ?_) AllReadyH.nil
            go_simp
            refine hK.out _ _ trivial (fun hHeld => ?_)
            clear hK K
            try simp only [Act.put, List.setIfInBounds_toArray, List.set_cons_zero, List.set_cons_succ]
            refine held_take (i := 21) (v := ?_) rfl (by kernel_rfl) (by kernel_rfl) (by kernel_rfl) (fun _ _ _ h => h) (by rfl) (by assumption) (fun w hSw => ?_) ?_
            rotate_left
            · (try dsimp only at hSw)
              go_simp
              try with_reducible rfl
            try simp only [Act.put, List.setIfInBounds_toArray, List.set_cons_zero, List.set_cons_succ]
            refine held_take (i := 22) (v := ?_) rfl (by kernel_rfl) (by kernel_rfl) (by kernel_rfl) (fun _ _ _ h => h) (by rfl) (by assumption) (fun w hSw => ?_) ?_
            rotate_left
            · (try dsimp only at hSw)
              go_simp
              try with_reducible rfl
            try simp only [Act.put, List.setIfInBounds_toArray, List.set_cons_zero, List.set_cons_succ]
            refine held_take (i := 23) (v := ?_) rfl (by kernel_rfl) (by kernel_rfl) (by kernel_rfl) (fun _ _ _ h => h) (by rfl) (by assumption) (fun w hSw => ?_) ?_
            rotate_left
            · (try dsimp only at hSw)
              go_simp
              try with_reducible rfl
            try simp only [Act.put, List.setIfInBounds_toArray, List.set_cons_zero, List.set_cons_succ]
            refine held_take (i := 24) (v := ?_) rfl (by kernel_rfl) (by kernel_rfl) (by kernel_rfl) (fun _ _ _ h => h) (by rfl) (by assumption) (fun w hSw => ?_) ?_
            rotate_left
            · (try dsimp only at hSw)
              go_simp
              try with_reducible rfl
            try simp only [Act.put, List.setIfInBounds_toArray, List.set_cons_zero, List.set_cons_succ]
            refine wpAnyH_ready (rs := [25]) (by kernel_rfl) (by simp) ?_
            refine held_cons (i := 25) rfl (by rfl) (fun K hK => ?_) AllReadyH.nil
            go_simp
            refine ref14_Check l A1 c1 w12 h3 ?_
            rw [show checkL 8 (prF l) l.length = 0 from HCK.out]
            intro w13 hb13
            have hc13 : Cur w13 c s a3 e3 := Blk.below hc11 hb13 (Blk.lt hc11)
            have hz13 : RCur w13 z s a3 e3 := Blk.below hz11 hb13 (Blk.lt hz11)
            have hbf := hb11.trans (hb13.mono hb11.size)
            dsimp only
            refine hK.out _ _ trivial (fun hHeld => ?_)
            clear hK K
            try simp only [Act.put, List.setIfInBounds_toArray, List.set_cons_zero, List.set_cons_succ]
            refine held_take (i := 26) (v := ?_) rfl (by kernel_rfl) (by kernel_rfl) (by kernel_rfl) (fun _ _ _ h => h) (by rfl) (by assumption) (fun w hSw => ?_) ?_
            rotate_left
            · (try dsimp only at hSw)
              go_simp
              try with_reducible rfl
            try simp only [Act.put, List.setIfInBounds_toArray, List.set_cons_zero, List.set_cons_succ]
            refine held_take (i := 27) (v := ?_) rfl (by kernel_rfl) (by kernel_rfl) (by kernel_rfl) (fun _ _ _ h => h) (by rfl) (by assumption) (fun w hSw => ?_) ?_
            rotate_left
            · (try dsimp only at hSw)
              go_simp
              try with_reducible rfl
            try simp only [Act.put, List.setIfInBounds_toArray, List.set_cons_zero, List.set_cons_succ]
            refine wpAnyH_done (by kernel_rfl) ?_ _
            go_wp2_with fail
            go_meet
            exact ⟨rfl, hc13, hz13, hbf⟩
          · refine held_cons (i := 20) rfl (by rfl) (fun K hK => ?_) AllReadyH.nil
            go_simp
            refine hK.out _ _ trivial (fun hHeld => ?_)
            clear hK K
            try simp only [Act.put, List.setIfInBounds_toArray, List.set_cons_zero, List.set_cons_succ]
            refine wpAnyH_ready (rs := [16]) (by kernel_rfl) (by simp) ?_
            refine held_cons (i := 16) rfl (by rfl) (fun K hK => ?_) AllReadyH.nil
            go_simp
            refine (cursor_At c s a3 e3 _ hc11).mono ?_
            rintro y w' ⟨rfl, rfl⟩
            dsimp only
            refine hK.out _ _ trivial (fun hHeld => ?_)
            clear hK K
            try simp only [Act.put, List.setIfInBounds_toArray, List.set_cons_zero, List.set_cons_succ]
            refine held_take (i := 21) (v := ?_) rfl (by kernel_rfl) (by kernel_rfl) (by kernel_rfl) (fun _ _ _ h => h) (by rfl) (by assumption) (fun w hSw => ?_) ?_
            rotate_left
            · (try dsimp only at hSw)
              go_simp
              try with_reducible rfl
            try simp only [Act.put, List.setIfInBounds_toArray, List.set_cons_zero, List.set_cons_succ]
            refine held_take (i := 22) (v := ?_) rfl (by kernel_rfl) (by kernel_rfl) (by kernel_rfl) (fun _ _ _ h => h) (by rfl) (by assumption) (fun w hSw => ?_) ?_
            rotate_left
            · (try dsimp only at hSw)
              go_simp
              try with_reducible rfl
            try simp only [Act.put, List.setIfInBounds_toArray, List.set_cons_zero, List.set_cons_succ]
            refine held_take (i := 23) (v := ?_) rfl (by kernel_rfl) (by kernel_rfl) (by kernel_rfl) (fun _ _ _ h => h) (by rfl) (by assumption) (fun w hSw => ?_) ?_
            rotate_left
            · (try dsimp only at hSw)
              go_simp
              try with_reducible rfl
            try simp only [Act.put, List.setIfInBounds_toArray, List.set_cons_zero, List.set_cons_succ]
            refine held_take (i := 24) (v := ?_) rfl (by kernel_rfl) (by kernel_rfl) (by kernel_rfl) (fun _ _ _ h => h) (by rfl) (by assumption) (fun w hSw => ?_) ?_
            rotate_left
            · (try dsimp only at hSw)
              go_simp
              try with_reducible rfl
            try simp only [Act.put, List.setIfInBounds_toArray, List.set_cons_zero, List.set_cons_succ]
            refine wpAnyH_ready (rs := [25]) (by kernel_rfl) (by simp) ?_
            refine held_cons (i := 25) rfl (by rfl) (fun K hK => ?_) AllReadyH.nil
            go_simp
            refine ref14_Check l A1 c1 w12 h3 ?_
            rw [show checkL 8 (prF l) l.length = 0 from HCK.out]
            intro w13 hb13
            have hc13 : Cur w13 c s a3 e3 := Blk.below hc11 hb13 (Blk.lt hc11)
            have hz13 : RCur w13 z s a3 e3 := Blk.below hz11 hb13 (Blk.lt hz11)
            have hbf := hb11.trans (hb13.mono hb11.size)
            dsimp only
            refine hK.out _ _ trivial (fun hHeld => ?_)
            clear hK K
            try simp only [Act.put, List.setIfInBounds_toArray, List.set_cons_zero, List.set_cons_succ]
            refine held_take (i := 26) (v := ?_) rfl (by kernel_rfl) (by kernel_rfl) (by kernel_rfl) (fun _ _ _ h => h) (by rfl) (by assumption) (fun w hSw => ?_) ?_
            rotate_left
            · (try dsimp only at hSw)
              go_simp
              try with_reducible rfl
            try simp only [Act.put, List.setIfInBounds_toArray, List.set_cons_zero, List.set_cons_succ]
            refine held_take (i := 27) (v := ?_) rfl (by kernel_rfl) (by kernel_rfl) (by kernel_rfl) (fun _ _ _ h => h) (by rfl) (by assumption) (fun w hSw => ?_) ?_
            rotate_left
            · (try dsimp only at hSw)
              go_simp
              try with_reducible rfl
            try simp only [Act.put, List.setIfInBounds_toArray, List.set_cons_zero, List.set_cons_succ]
            refine wpAnyH_done (by kernel_rfl) ?_ _
            go_wp2_with fail
            go_meet
            exact ⟨rfl, hc13, hz13, hbf⟩
      case rest =>
      obtain ⟨rfl, hc4, hz4, hb4⟩ := hcut
      clear hz9 hc9 hbw h3
      go_wp2_with fail
      go_roundw
      case rel => exact ⟨j + 1, a3, e3, by have := HMK.out; go_num, by omega, ha3, hc4, hz4, hb4⟩
      case measure => simp [RowKit.intOf]; omega
    · have hj1 : ¬ (j : Int) < (m : Int) := by clear hw1 hw2 hw3 hw4 hw5; omega
      have hjd : decide ((j : Int) < (m : Int)) = false := decide_eq_false hj1
      go_wp2_with fail
      first | exact ⟨rfl, hbw⟩ | (go_ret; exact ⟨rfl, hbw⟩)
end
end Go.Proofs.Ytgjiedjfplbipaa
