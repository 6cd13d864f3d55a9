/- PageDecodes' walk. -/
import Derived.Deep.RegionWith
import Derived.Deep.DrawnRows
import Derived.Deep.DeepCutAuto
import Derived.Test.YtokjkpoegcnijaaPageRead
import Derived.Test.YtokjkpoegcnijaaLaw20
import Derived.Test.YtokjkpoegcnijaaRef20Dec
import Derived.Test.YtokjkpoegcnijaaRef20Same
import Derived.Test.YtokjkpoegcnijaaHeld
namespace Go.Proofs.Ytokjkpoegcnijaa
open Go.RowKit Go.Lib
section
set_option maxHeartbeats 4000000 in
set_option maxRecDepth 100000 in
theorem law20_decodes (s : ByteArray) (w : World) (hs : s.size ≤ 140737488351232) :
    Calls Try.prog 5 #[.string s] w fun e w' => e = .returned (.bool true) ∧ Below w.heap.size w w' := by
  go_enter Try.func5, Try.ntmps5
  go_wp2_with fail
  refine law20_awake w ?_
  intro w1 hb1
  by_cases hbig : 10000 < s.size
  · have q1 : (10000 : Int) < (s.size : Int) := by omega
    have q2 : decide ((10000 : Int) < (s.size : Int)) = true := decide_eq_true q1
    go_wp2_with fail
    first | exact ⟨rfl, hb1⟩ | (go_ret; exact ⟨rfl, hb1⟩)
  have q1 : ¬ (10000 : Int) < (s.size : Int) := by omega
  have q2 : decide ((10000 : Int) < (s.size : Int)) = false := decide_eq_false q1
  go_wp2_with fail
  refine page_Decode s w1 hs ?_
  have hback : ∀ g, pgD s = (g, 0) → PgOk g ∧ pageEnc g = (s, 0) ∧ ∀ j, j < g.sl.length → 0 ≤ (g.sl.getD j (0, emp)).1 ∧ (g.sl.getD j (0, emp)).1 < 256 := fun g h => pgD_back h
  have hdec := fun w R => ref20_Decode s w hs (R := R)
  generalize pgD s = pd at *
  obtain ⟨pg, f⟩ := pd
  dsimp only at hdec ⊢
  intro A1 A2 c1 c2 w2 r1 r2 hl1 hl2 hb2
  replace hb2 := hb1.trans (hb2.mono hb1.size)
  clear hb1 q1 q2
  unfold pgA
  go_upto_region 6 with fail
  have hX := Blk.new w2 27 #[.string pg.pre, .bool pg.leaf, .slice A1 pg.sl.length c1, .slice A2 pg.it.length c2]
  replace r1 := r1.alloc (.cells #[.string pg.pre, .bool pg.leaf, .slice A1 pg.sl.length c1, .slice A2 pg.it.length c2] 27)
  replace r2 := r2.alloc (.cells #[.string pg.pre, .bool pg.leaf, .slice A1 pg.sl.length c1, .slice A2 pg.it.length c2] 27)
  replace hb2 := hb2.alloc hb2.size (.cells #[.string pg.pre, .bool pg.leaf, .slice A1 pg.sl.length c1, .slice A2 pg.it.length c2] 27)
  generalize (w2.alloc (.cells #[.string pg.pre, .bool pg.leaf, .slice A1 pg.sl.length c1, .slice A2 pg.it.length c2] 27)) = w3 at *
  generalize w2.heap.size = x at *
  go_wp2_with fail
  refine hdec w3 _ ?_
  intro B1 B2 d1 d2 w4 k1 k2 _ _ hb4
  clear hdec
  replace r1 := r1.below hb4 (Nat.le_refl _)
  replace r2 := r2.below hb4 (Nat.le_refl _)
  replace hX := hX.below hb4 hX.lt
  replace hb4 := hb2.trans (hb4.mono hb2.size)
  clear hb2
  unfold pgA
  go_upto_region 7 with fail
  have hY := Blk.new w4 27 #[.string pg.pre, .bool pg.leaf, .slice B1 pg.sl.length d1, .slice B2 pg.it.length d2]
  replace hX := hX.alloc (.cells #[.string pg.pre, .bool pg.leaf, .slice B1 pg.sl.length d1, .slice B2 pg.it.length d2] 27)
  replace r1 := r1.alloc (.cells #[.string pg.pre, .bool pg.leaf, .slice B1 pg.sl.length d1, .slice B2 pg.it.length d2] 27)
  replace r2 := r2.alloc (.cells #[.string pg.pre, .bool pg.leaf, .slice B1 pg.sl.length d1, .slice B2 pg.it.length d2] 27)
  replace k1 := k1.alloc (.cells #[.string pg.pre, .bool pg.leaf, .slice B1 pg.sl.length d1, .slice B2 pg.it.length d2] 27)
  replace k2 := k2.alloc (.cells #[.string pg.pre, .bool pg.leaf, .slice B1 pg.sl.length d1, .slice B2 pg.it.length d2] 27)
  replace hb4 := hb4.alloc hb4.size (.cells #[.string pg.pre, .bool pg.leaf, .slice B1 pg.sl.length d1, .slice B2 pg.it.length d2] 27)
  generalize (w4.alloc (.cells #[.string pg.pre, .bool pg.leaf, .slice B1 pg.sl.length d1, .slice B2 pg.it.length d2] 27)) = w5 at *
  generalize w4.heap.size = y at *
  have q0 := hX.cell 0
  have q1 := hX.cell 1
  have q2 := hX.cell 2
  have q3 := hX.cell 3
  have y0 := hY.cell 0
  have y1 := hY.cell 1
  have y2 := hY.cell 2
  have y3 := hY.cell 3
  dsimp at q0 q1 q2 q3 y0 y1 y2 y3
  go_wp2_with fail
  refine ref20_Same pg pg A1 A2 B1 B2 c1 c2 d1 d2 w5 r1 r2 k1 k2 (by omega) (by omega) ?_
  rw [sameR_self]
  intro w6 hb6
  replace r1 := r1.below hb6 (Nat.le_refl _)
  replace r2 := r2.below hb6 (Nat.le_refl _)
  replace hX := hX.below hb6 hX.lt
  replace hb6 := hb4.trans (hb6.mono hb4.size)
  clear hb4 hY k1 k2 q0 q1 q2 q3 y0 y1 y2 y3
  go_wp2_with fail
  refine cursor_New s w6 ?_
  intro c w7 hc7 hcw hb7
  have hcx : c ≠ w7.heap.size := Nat.ne_of_lt (Blk.lt hc7)
  go_upto_region 10 with fail
  have hx8 : RCur (w7.alloc (.cells #[.string s, .int .i64 0, .int .i64 0] 47)) w7.heap.size s 0 0 := Blk.new _ _ _
  have hc8 : Cur (w7.alloc (.cells #[.string s, .int .i64 0, .int .i64 0] 47)) c s 0 0 := Blk.alloc hc7 _
  have hzw : w6.heap.size ≤ w7.heap.size := hb7.size
  replace hb7 := hb7.alloc hb7.size (.cells #[.string s, .int .i64 0, .int .i64 0] 47)
  clear hc7
  generalize (w7.alloc (.cells #[.string s, .int .i64 0, .int .i64 0] 47)) = w8 at *
  generalize w7.heap.size = z at *
  go_cut [63] (fun s63 wx => s63 = .bool false ∧ Below w6.heap.size w6 wx)
  case first =>
    refine wp_region_held_drew (S := fun _ => True) (by kernel_rfl) trivial (fun hHeld => ?_)
    replace hx8 : RCur w8.drew z s 0 0 := hx8
    replace hc8 : Cur w8.drew c s 0 0 := hc8
    replace hb7 : Below w6.heap.size w6 w8.drew := below_drewN hb7 1
    generalize w8.drew = w9 at *
    refine held_take (i := 0) (v := ?_) rfl (by kernel_rfl) (by kernel_rfl) (by kernel_rfl) (fun _ _ _ h => h) (by rfl) (by assumption) (fun w hSw => ?_) ?_
    rotate_left
    · (try dsimp only at hSw)
      go_simp
      try with_reducible rfl
    try simp only [Act.put, List.setIfInBounds_toArray, List.set_cons_zero, List.set_cons_succ]
    refine held_take (i := 2) (v := ?_) rfl (by kernel_rfl) (by kernel_rfl) (by kernel_rfl) (fun _ _ _ h => h) (by rfl) (by assumption) (fun w hSw => ?_) ?_
    rotate_left
    · (try dsimp only at hSw)
      go_simp
      try with_reducible rfl
    try simp only [Act.put, List.setIfInBounds_toArray, List.set_cons_zero, List.set_cons_succ]
    refine wpAnyH_ready (rs := [1]) (by kernel_rfl) (by simp) ?_
    refine held_cons (i := 1) rfl (by rfl) (fun K hK => ?_) AllReadyH.nil
    go_simp
    refine page_Take c s 0 0 w9 hc8 (Nat.zero_le _) hs ?_
    have hrt := fun w h R => ref20_Take z s 0 0 w h (Nat.zero_le _) hs (R := R)
    generalize pgT s 0 0 = pt at *
    obtain ⟨tg, a3, e3⟩ := pt
    dsimp only at hrt ⊢
    intro A3 A4 c3 c4 w10 h3 h4 hl3 hl4 hA3 hA4 hc10 _ hx10
    have hz10 := Blk.ext hx8 hx10 (fun e => hcx e.symm)
    replace hb7 := below_ext hb7 (Nat.le_refl _) hx10 (fun b e => e ▸ hcw)
    have hzl := Blk.lt hx8
    refine hK.out _ _ trivial (fun hHeld => ?_)
    clear hK K
    try simp only [Act.put, List.setIfInBounds_toArray, List.set_cons_zero, List.set_cons_succ]
    refine wpAnyH_ready (rs := [3]) (by kernel_rfl) (by simp) ?_
    refine held_cons (i := 3) rfl (by rfl) (fun K hK => ?_) AllReadyH.nil
    go_simp
    refine hrt w10 hz10 _ ?_
    intro A5 A6 c5 c6 w11 h5 h6 _ _ _ _ hz11 _ hx11
    have hc11 := Blk.ext hc10 hx11 (fun e => hcx e)
    replace hb7 := below_ext hb7 (Nat.le_refl _) hx11 (fun b e => e ▸ hzw)
    replace h3 := h3.ext hx11 (fun ad e _ hS => by have := hA3 ad e; omega)
    replace h4 := h4.ext hx11 (fun ad e _ hS => by have := hA4 ad e; omega)
    dsimp only
    refine hK.out _ _ trivial (fun hHeld => ?_)
    clear hK K
    try simp only [Act.put, List.setIfInBounds_toArray, List.set_cons_zero, List.set_cons_succ]
    refine wpAnyH_ready (rs := [4]) (by kernel_rfl) (by simp) ?_
    refine held_cons (i := 4) rfl (by rfl) (fun K hK => ?_) AllReadyH.nil
    go_simp
    refine ref20_Same tg tg A3 A4 A5 A6 c3 c4 c5 c6 w11 h3 h4 h5 h6 (by omega) (by omega) ?_
    rw [sameR_self]
    intro w12 hb12
    replace hc11 : Cur w12 c s a3 e3 := Blk.below hc11 hb12 (Blk.lt hc11)
    replace hz11 : RCur w12 z s a3 e3 := Blk.below hz11 hb12 (Blk.lt hz11)
    have hb11 := hb7.trans (hb12.mono hb7.size)
    obtain ⟨v0, v1, v2, _, _⟩ := RCur.cells hz11
    clear h3 h4 h5 h6 hb7 hb12 hx10 hx11 hc10 hz10 hrt
    dsimp only
    refine hK.out _ _ trivial (fun hHeld => ?_)
    clear hK K
    try simp only [Act.put, List.setIfInBounds_toArray, List.set_cons_zero, List.set_cons_succ]
    refine held_take (i := 5) (v := ?_) rfl (by kernel_rfl) (by kernel_rfl) (by kernel_rfl) (fun _ _ _ h => h) (by rfl) (by assumption) (fun w hSw => ?_) ?_
    rotate_left
    · (try dsimp only at hSw)
      go_simp
      try with_reducible rfl
    try simp only [Act.put, List.setIfInBounds_toArray, List.set_cons_zero, List.set_cons_succ]
    refine held_take (i := 6) (v := ?_) rfl (by kernel_rfl) (by kernel_rfl) (by kernel_rfl) (fun _ _ _ h => h) (by rfl) (by assumption) (fun w hSw => ?_) ?_
    rotate_left
    · (try dsimp only at hSw)
      go_simp
      try with_reducible rfl
    try simp only [Act.put, List.setIfInBounds_toArray, List.set_cons_zero, List.set_cons_succ]
    refine held_take (i := 7) (v := ?_) rfl (by kernel_rfl) (by kernel_rfl) (by kernel_rfl) (fun _ _ _ h => h) (by rfl) (by assumption) (fun w hSw => ?_) ?_
    rotate_left
    · (try dsimp only at hSw)
      go_simp
      try with_reducible rfl
    try simp only [Act.put, List.setIfInBounds_toArray, List.set_cons_zero, List.set_cons_succ]
    refine held_take (i := 9) (v := ?_) rfl (by kernel_rfl) (by kernel_rfl) (by kernel_rfl) (fun _ _ _ h => h) (by rfl) (by assumption) (fun w hSw => ?_) ?_
    rotate_left
    · (try dsimp only at hSw)
      go_simp
      try with_reducible rfl
    try simp only [Act.put, List.setIfInBounds_toArray, List.set_cons_zero, List.set_cons_succ]
    refine held_take (i := 10) (v := ?_) rfl (by kernel_rfl) (by kernel_rfl) (by kernel_rfl) (fun _ _ _ h => h) (by rfl) (by assumption) (fun w hSw => ?_) ?_
    rotate_left
    · (try dsimp only at hSw)
      go_simp
      try with_reducible rfl
    try simp only [Act.put, List.setIfInBounds_toArray, List.set_cons_zero, List.set_cons_succ]
    refine held_take (i := 11) (v := ?_) rfl (by kernel_rfl) (by kernel_rfl) (by kernel_rfl) (fun _ _ _ h => h) (by rfl) (by assumption) (fun w hSw => ?_) ?_
    rotate_left
    · (try dsimp only at hSw)
      go_simp
      try with_reducible rfl
    try simp only [Act.put, List.setIfInBounds_toArray, List.set_cons_zero, List.set_cons_succ]
    refine wpAnyH_ready (rs := [8, 12]) (by kernel_rfl) (by simp) ?_
    refine held_cons (i := 8) rfl (by rfl) (fun K hK => ?_) ?_
    · go_simp
      refine (cursor_Err c s a3 e3 _ hc11).mono ?_
      rintro y w' ⟨rfl, rfl⟩
      dsimp only
      refine hK.out _ _ trivial (fun hHeld => ?_)
      clear hK K
      try simp only [Act.put, List.setIfInBounds_toArray, List.set_cons_zero, List.set_cons_succ]
      refine wpAnyH_ready (rs := [12]) (by kernel_rfl) (by simp) ?_
      refine held_cons (i := 12) rfl (by rfl) (fun K hK => ?_) AllReadyH.nil
      go_simp
      refine hK.out _ _ trivial (fun hHeld => ?_)
      clear hK K
      try simp only [Act.put, List.setIfInBounds_toArray, List.set_cons_zero, List.set_cons_succ]
      refine held_take (i := 13) (v := ?_) rfl (by kernel_rfl) (by kernel_rfl) (by kernel_rfl) (fun _ _ _ h => h) (by rfl) (by assumption) (fun w hSw => ?_) ?_
      rotate_left
      · (try dsimp only at hSw)
        go_simp
        try with_reducible rfl
      try simp only [Act.put, List.setIfInBounds_toArray, List.set_cons_zero, List.set_cons_succ]
      refine held_take (i := 14) (v := ?_) rfl (by kernel_rfl) (by kernel_rfl) (by kernel_rfl) (fun _ _ _ h => h) (by rfl) (by assumption) (fun w hSw => ?_) ?_
      rotate_left
      · (try dsimp only at hSw)
        go_simp
        try with_reducible rfl
      try simp only [Act.put, List.setIfInBounds_toArray, List.set_cons_zero, List.set_cons_succ]
      refine held_take (i := 15) (v := ?_) rfl (by kernel_rfl) (by kernel_rfl) (by kernel_rfl) (fun _ _ _ h => h) (by rfl) (by assumption) (fun w hSw => ?_) ?_
      rotate_left
      · (try dsimp only at hSw)
        go_simp
        try with_reducible rfl
      try simp only [Act.put, List.setIfInBounds_toArray, List.set_cons_zero, List.set_cons_succ]
      refine held_take (i := 16) (v := ?_) rfl (by kernel_rfl) (by kernel_rfl) (by kernel_rfl) (fun _ _ _ h => h) (by rfl) (by assumption) (fun w hSw => ?_) ?_
      rotate_left
      · (try dsimp only at hSw)
        go_simp
        try with_reducible rfl
      try simp only [Act.put, List.setIfInBounds_toArray, List.set_cons_zero, List.set_cons_succ]
      refine held_take (i := 18) (v := ?_) rfl (by kernel_rfl) (by kernel_rfl) (by kernel_rfl) (fun _ _ _ h => h) (by rfl) (by assumption) (fun w hSw => ?_) ?_
      rotate_left
      · (try dsimp only at hSw)
        go_simp
        try with_reducible rfl
      try simp only [Act.put, List.setIfInBounds_toArray, List.set_cons_zero, List.set_cons_succ]
      refine held_take (i := 19) (v := ?_) rfl (by kernel_rfl) (by kernel_rfl) (by kernel_rfl) (fun _ _ _ h => h) (by rfl) (by assumption) (fun w hSw => ?_) ?_
      rotate_left
      · (try dsimp only at hSw)
        go_simp
        try with_reducible rfl
      try simp only [Act.put, List.setIfInBounds_toArray, List.set_cons_zero, List.set_cons_succ]
      refine held_take (i := 20) (v := ?_) rfl (by kernel_rfl) (by kernel_rfl) (by kernel_rfl) (fun _ _ _ h => h) (by rfl) (by assumption) (fun w hSw => ?_) ?_
      rotate_left
      · (try dsimp only at hSw)
        go_simp
        try with_reducible rfl
      try simp only [Act.put, List.setIfInBounds_toArray, List.set_cons_zero, List.set_cons_succ]
      refine wpAnyH_ready (rs := [17, 21]) (by kernel_rfl) (by simp) ?_
      refine held_cons (i := 17) rfl (by rfl) (fun K hK => ?_) ?_
      · go_simp
        refine (cursor_At c s a3 e3 _ hc11).mono ?_
        rintro y w' ⟨rfl, rfl⟩
        dsimp only
        refine hK.out _ _ trivial (fun hHeld => ?_)
        clear hK K
        try simp only [Act.put, List.setIfInBounds_toArray, List.set_cons_zero, List.set_cons_succ]
        refine wpAnyH_ready (rs := [21]) (by kernel_rfl) (by simp) ?_
        refine held_cons (i := 21) rfl (by rfl) (fun K hK => ?_) AllReadyH.nil
        go_simp
        refine hK.out _ _ trivial (fun hHeld => ?_)
        clear hK K
        try simp only [Act.put, List.setIfInBounds_toArray, List.set_cons_zero, List.set_cons_succ]
        refine held_take (i := 22) (v := ?_) rfl (by kernel_rfl) (by kernel_rfl) (by kernel_rfl) (fun _ _ _ h => h) (by rfl) (by assumption) (fun w hSw => ?_) ?_
        rotate_left
        · (try dsimp only at hSw)
          go_simp
          try with_reducible rfl
        try simp only [Act.put, List.setIfInBounds_toArray, List.set_cons_zero, List.set_cons_succ]
        refine held_take (i := 23) (v := ?_) rfl (by kernel_rfl) (by kernel_rfl) (by kernel_rfl) (fun _ _ _ h => h) (by rfl) (by assumption) (fun w hSw => ?_) ?_
        rotate_left
        · (try dsimp only at hSw)
          go_simp
          try with_reducible rfl
        try simp only [Act.put, List.setIfInBounds_toArray, List.set_cons_zero, List.set_cons_succ]
        refine wpAnyH_done (by kernel_rfl) ?_ _
        go_wp2_with fail
        go_meet
        exact ⟨rfl, hb11⟩
      · refine held_cons (i := 21) rfl (by rfl) (fun K hK => ?_) AllReadyH.nil
        go_simp
        refine hK.out _ _ trivial (fun hHeld => ?_)
        clear hK K
        try simp only [Act.put, List.setIfInBounds_toArray, List.set_cons_zero, List.set_cons_succ]
        refine wpAnyH_ready (rs := [17]) (by kernel_rfl) (by simp) ?_
        refine held_cons (i := 17) rfl (by rfl) (fun K hK => ?_) AllReadyH.nil
        go_simp
        refine (cursor_At c s a3 e3 _ hc11).mono ?_
        rintro y w' ⟨rfl, rfl⟩
        dsimp only
        refine hK.out _ _ trivial (fun hHeld => ?_)
        clear hK K
        try simp only [Act.put, List.setIfInBounds_toArray, List.set_cons_zero, List.set_cons_succ]
        refine held_take (i := 22) (v := ?_) rfl (by kernel_rfl) (by kernel_rfl) (by kernel_rfl) (fun _ _ _ h => h) (by rfl) (by assumption) (fun w hSw => ?_) ?_
        rotate_left
        · (try dsimp only at hSw)
          go_simp
          try with_reducible rfl
        try simp only [Act.put, List.setIfInBounds_toArray, List.set_cons_zero, List.set_cons_succ]
        refine held_take (i := 23) (v := ?_) rfl (by kernel_rfl) (by kernel_rfl) (by kernel_rfl) (fun _ _ _ h => h) (by rfl) (by assumption) (fun w hSw => ?_) ?_
        rotate_left
        · (try dsimp only at hSw)
          go_simp
          try with_reducible rfl
        try simp only [Act.put, List.setIfInBounds_toArray, List.set_cons_zero, List.set_cons_succ]
        refine wpAnyH_done (by kernel_rfl) ?_ _
        go_wp2_with fail
        go_meet
        exact ⟨rfl, hb11⟩
    · refine held_cons (i := 12) rfl (by rfl) (fun K hK => ?_) AllReadyH.nil
      go_simp
      refine hK.out _ _ trivial (fun hHeld => ?_)
      clear hK K
      try simp only [Act.put, List.setIfInBounds_toArray, List.set_cons_zero, List.set_cons_succ]
      refine wpAnyH_ready (rs := [8]) (by kernel_rfl) (by simp) ?_
      refine held_cons (i := 8) rfl (by rfl) (fun K hK => ?_) AllReadyH.nil
      go_simp
      refine (cursor_Err c s a3 e3 _ hc11).mono ?_
      rintro y w' ⟨rfl, rfl⟩
      dsimp only
      refine hK.out _ _ trivial (fun hHeld => ?_)
      clear hK K
      try simp only [Act.put, List.setIfInBounds_toArray, List.set_cons_zero, List.set_cons_succ]
      refine held_take (i := 13) (v := ?_) rfl (by kernel_rfl) (by kernel_rfl) (by kernel_rfl) (fun _ _ _ h => h) (by rfl) (by assumption) (fun w hSw => ?_) ?_
      rotate_left
      · (try dsimp only at hSw)
        go_simp
        try with_reducible rfl
      try simp only [Act.put, List.setIfInBounds_toArray, List.set_cons_zero, List.set_cons_succ]
      refine held_take (i := 14) (v := ?_) rfl (by kernel_rfl) (by kernel_rfl) (by kernel_rfl) (fun _ _ _ h => h) (by rfl) (by assumption) (fun w hSw => ?_) ?_
      rotate_left
      · (try dsimp only at hSw)
        go_simp
        try with_reducible rfl
      try simp only [Act.put, List.setIfInBounds_toArray, List.set_cons_zero, List.set_cons_succ]
      refine held_take (i := 15) (v := ?_) rfl (by kernel_rfl) (by kernel_rfl) (by kernel_rfl) (fun _ _ _ h => h) (by rfl) (by assumption) (fun w hSw => ?_) ?_
      rotate_left
      · (try dsimp only at hSw)
        go_simp
        try with_reducible rfl
      try simp only [Act.put, List.setIfInBounds_toArray, List.set_cons_zero, List.set_cons_succ]
      refine held_take (i := 16) (v := ?_) rfl (by kernel_rfl) (by kernel_rfl) (by kernel_rfl) (fun _ _ _ h => h) (by rfl) (by assumption) (fun w hSw => ?_) ?_
      rotate_left
      · (try dsimp only at hSw)
        go_simp
        try with_reducible rfl
      try simp only [Act.put, List.setIfInBounds_toArray, List.set_cons_zero, List.set_cons_succ]
      refine held_take (i := 18) (v := ?_) rfl (by kernel_rfl) (by kernel_rfl) (by kernel_rfl) (fun _ _ _ h => h) (by rfl) (by assumption) (fun w hSw => ?_) ?_
      rotate_left
      · (try dsimp only at hSw)
        go_simp
        try with_reducible rfl
      try simp only [Act.put, List.setIfInBounds_toArray, List.set_cons_zero, List.set_cons_succ]
      refine held_take (i := 19) (v := ?_) rfl (by kernel_rfl) (by kernel_rfl) (by kernel_rfl) (fun _ _ _ h => h) (by rfl) (by assumption) (fun w hSw => ?_) ?_
      rotate_left
      · (try dsimp only at hSw)
        go_simp
        try with_reducible rfl
      try simp only [Act.put, List.setIfInBounds_toArray, List.set_cons_zero, List.set_cons_succ]
      refine held_take (i := 20) (v := ?_) rfl (by kernel_rfl) (by kernel_rfl) (by kernel_rfl) (fun _ _ _ h => h) (by rfl) (by assumption) (fun w hSw => ?_) ?_
      rotate_left
      · (try dsimp only at hSw)
        go_simp
        try with_reducible rfl
      try simp only [Act.put, List.setIfInBounds_toArray, List.set_cons_zero, List.set_cons_succ]
      refine wpAnyH_ready (rs := [17, 21]) (by kernel_rfl) (by simp) ?_
      refine held_cons (i := 17) rfl (by rfl) (fun K hK => ?_) ?_
      · go_simp
        refine (cursor_At c s a3 e3 _ hc11).mono ?_
        rintro y w' ⟨rfl, rfl⟩
        dsimp only
        refine hK.out _ _ trivial (fun hHeld => ?_)
        clear hK K
        try simp only [Act.put, List.setIfInBounds_toArray, List.set_cons_zero, List.set_cons_succ]
        refine wpAnyH_ready (rs := [21]) (by kernel_rfl) (by simp) ?_
        refine held_cons (i := 21) rfl (by rfl) (fun K hK => ?_) AllReadyH.nil
        go_simp
        refine hK.out _ _ trivial (fun hHeld => ?_)
        clear hK K
        try simp only [Act.put, List.setIfInBounds_toArray, List.set_cons_zero, List.set_cons_succ]
        refine held_take (i := 22) (v := ?_) rfl (by kernel_rfl) (by kernel_rfl) (by kernel_rfl) (fun _ _ _ h => h) (by rfl) (by assumption) (fun w hSw => ?_) ?_
        rotate_left
        · (try dsimp only at hSw)
          go_simp
          try with_reducible rfl
        try simp only [Act.put, List.setIfInBounds_toArray, List.set_cons_zero, List.set_cons_succ]
        refine held_take (i := 23) (v := ?_) rfl (by kernel_rfl) (by kernel_rfl) (by kernel_rfl) (fun _ _ _ h => h) (by rfl) (by assumption) (fun w hSw => ?_) ?_
        rotate_left
        · (try dsimp only at hSw)
          go_simp
          try with_reducible rfl
        try simp only [Act.put, List.setIfInBounds_toArray, List.set_cons_zero, List.set_cons_succ]
        refine wpAnyH_done (by kernel_rfl) ?_ _
        go_wp2_with fail
        go_meet
        exact ⟨rfl, hb11⟩
      · refine held_cons (i := 21) rfl (by rfl) (fun K hK => ?_) AllReadyH.nil
        go_simp
        refine hK.out _ _ trivial (fun hHeld => ?_)
        clear hK K
        try simp only [Act.put, List.setIfInBounds_toArray, List.set_cons_zero, List.set_cons_succ]
        refine wpAnyH_ready (rs := [17]) (by kernel_rfl) (by simp) ?_
        refine held_cons (i := 17) rfl (by rfl) (fun K hK => ?_) AllReadyH.nil
        go_simp
        refine (cursor_At c s a3 e3 _ hc11).mono ?_
        rintro y w' ⟨rfl, rfl⟩
        dsimp only
        refine hK.out _ _ trivial (fun hHeld => ?_)
        clear hK K
        try simp only [Act.put, List.setIfInBounds_toArray, List.set_cons_zero, List.set_cons_succ]
        refine held_take (i := 22) (v := ?_) rfl (by kernel_rfl) (by kernel_rfl) (by kernel_rfl) (fun _ _ _ h => h) (by rfl) (by assumption) (fun w hSw => ?_) ?_
        rotate_left
        · (try dsimp only at hSw)
          go_simp
          try with_reducible rfl
        try simp only [Act.put, List.setIfInBounds_toArray, List.set_cons_zero, List.set_cons_succ]
        refine held_take (i := 23) (v := ?_) rfl (by kernel_rfl) (by kernel_rfl) (by kernel_rfl) (fun _ _ _ h => h) (by rfl) (by assumption) (fun w hSw => ?_) ?_
        rotate_left
        · (try dsimp only at hSw)
          go_simp
          try with_reducible rfl
        try simp only [Act.put, List.setIfInBounds_toArray, List.set_cons_zero, List.set_cons_succ]
        refine wpAnyH_done (by kernel_rfl) ?_ _
        go_wp2_with fail
        go_meet
        exact ⟨rfl, hb11⟩
  case rest =>
  obtain ⟨rfl, hb9⟩ := hcut
  replace r1 := r1.below hb9 (Nat.le_refl _)
  replace r2 := r2.below hb9 (Nat.le_refl _)
  replace hX := hX.below hb9 hX.lt
  replace hb9 := hb6.trans (hb9.mono hb6.size)
  clear hx8 hc8 hb7
  by_cases hf : f = 0
  · subst hf
    obtain ⟨hok, henc, hrg⟩ := hback pg rfl
    have hck := checkR_of hok
    have HCK := Lib.hid hck
    clear hck hok hback
    have q0 := hX.cell 0
    have q1 := hX.cell 1
    have q2 := hX.cell 2
    have q3 := hX.cell 3
    dsimp at q0 q1 q2 q3
    go_wp2_with fail
    refine page_Encode pg A1 A2 c1 c2 wc r1 r2 (by omega) (by omega) hrg ?_
    rw [henc]
    dsimp only
    intro w10 hb10
    replace r1 := r1.below hb10 (Nat.le_refl _)
    replace r2 := r2.below hb10 (Nat.le_refl _)
    replace hX := hX.below hb10 hX.lt
    replace hb10 := hb9.trans (hb10.mono hb9.size)
    clear q0 q1 q2 q3 hb9 henc
    have q0 := hX.cell 0
    have q1 := hX.cell 1
    have q2 := hX.cell 2
    have q3 := hX.cell 3
    dsimp at q0 q1 q2 q3
    go_wp2_with fail
    refine ref20_Check pg A1 A2 c1 c2 w10 r1 r2 ?_
    rw [HCK.out]
    intro w11 hb11
    go_wp2_with fail
    first | exact ⟨rfl, hb10.trans (hb11.mono hb10.size)⟩ | (go_ret; exact ⟨rfl, hb10.trans (hb11.mono hb10.size)⟩)
  · have hfb : (f != 0) = true := by simpa using hf
    go_wp2_with fail
    first | exact ⟨rfl, hb9⟩ | (go_ret; exact ⟨rfl, hb9⟩)
end
end Go.Proofs.Ytokjkpoegcnijaa
