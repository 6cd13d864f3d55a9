/- PairsPuts' walk. -/
import Derived.Deep.RegionWith
import Derived.Deep.DrawnRows
import Derived.Deep.DeepCutAuto
import Derived.Test.YtgjiedjfplbipaaPairRead
import Derived.Test.YtgjiedjfplbipaaPairValue
import Derived.Test.YtgjiedjfplbipaaHeld
namespace Go.Proofs.Ytgjiedjfplbipaa
open Go.RowKit Go.Lib
section
theorem pairsPut_size (max : Int) (l : List It) : (pairsPut ⟨#[]⟩ max 0 l).1.size ≤ 400000 := by
  unfold pairsPut
  by_cases hc : checkP l = 0
  · rw [if_neg (fun c => c hc)]
    have hpk := checkP_ok hc
    have h1 := prPuts_size hpk max (countPut ⟨#[]⟩ max 0 8 l.length) l.length (Nat.le_refl _)
    rw [List.take_length] at h1
    have h2 := countPut_size ⟨#[]⟩ max 0 8 l.length
    have h3 := hpk.len
    rw [emp_size] at h2
    omega
  · rw [if_pos hc]; exact Nat.zero_le _
theorem penEnd_size (u : ByteArray) (e : Int) : (penEnd u e).1.size ≤ u.size := by
  unfold penEnd
  split
  · exact Nat.le_refl _
  · exact Nat.zero_le _
set_option maxHeartbeats 4000000 in
set_option maxRecDepth 100000 in
theorem law14_puts (l : List It) (A : Option Addr) (c : Nat) (max : Int) (w : World) (hr : Row w A (flat itC l)) (hm : max ≤ 9223372036854775807) :
    Calls Try.prog 5 #[.slice A l.length c, .int .i64 max] w fun e w' => e = .returned (.bool true) ∧ Below w.heap.size w w' := by
  go_enter Try.func5, Try.ntmps5
  go_wp2_with fail
  refine law14_awake w ?_
  intro w1 hb1
  replace hr := hr.below hb1 (Nat.le_refl _)
  go_wp2_with fail
  refine ref14_Great l A c w1 hr ?_
  rintro b w2 n hbd rfl
  replace hr : Row (w1.drewN n) _ _ := hr
  replace hb1 := below_drewN hb1 n
  generalize w1.drewN n = w8 at *
  cases b
  rotate_left
  · go_wp2_with fail
    first | exact ⟨rfl, hb1⟩ | (go_ret; exact ⟨rfl, hb1⟩)
  obtain ⟨hl20, _⟩ := hbd rfl
  clear hbd
  obtain ⟨mx, hmx⟩ : ∃ mx, (if max < 0 then 0 else max) = mx := ⟨_, rfl⟩
  have hm0 : 0 ≤ mx ∧ mx ≤ 9223372036854775807 := by rw [← hmx]; split <;> omega
  have HMX := Lib.hid hmx
  clear hmx hm
  have hA1 : ∀ ad, A = some ad → flat itC l ≠ [] → ad.block < w8.heap.size := fun ad e hn => Row.lt hr hn ad e
  go_wp2_with fail
  refine pen_New max w8.heap.size w8 ?_
  rw [HMX.out]
  intro gp w9 hp9 hgp hb9
  go_wp2_with fail
  refine ref02_New max w9 ?_
  rw [HMX.out]
  intro gx w10 hx10 hgx hb10
  have hp10 := hp9.ext (Ext.of_below hb10) (Nat.not_le.2 hp9.lt) (fun k e => by cases e)
  have hgpx : gp ≠ gx := by have := hp9.lt; omega
  have hgx2 : w8.heap.size ≤ gx := by have := hb9.size; omega
  have hxl := Blk.lt hx10
  replace hb10 := hb9.trans (hb10.mono hb9.size)
  clear hb9 hp9
  go_wp2_with fail
  refine pairs_Put w8.heap.size gp none ⟨#[]⟩ mx 0 l A c w10 hp10 hb10.size hm0.1 hm0.2 (by decide) (hr.below hb10 (Nat.le_refl _)) (fun ad e hn h => by
    have := hA1 ad e hn
    rcases h with h | h
    · omega
    · cases h) ?_
  have hrp := fun w o h h1 k1 R => ref14_Put gx ⟨#[]⟩ mx 0 l A c w h hm0.1 hm0.2 o h1 k1 (R := R)
  have hback := fun T => pairs_back (max := mx) (l := l) (T := T)
  have husz := pairsPut_size mx l
  generalize pairsPut ⟨#[]⟩ mx 0 l = pp at *
  obtain ⟨u, e1⟩ := pp
  dsimp only at hrp hback husz ⊢
  intro w11 o hp11 hos hx11
  have hr11 : RPen w11 gx ⟨#[]⟩ mx 0 := Blk.ext hx10 hx11 (fun h => by
    rcases h with h | h
    · exact hgpx h.symm
    · cases h)
  replace hb10 := below_ext hb10 (Nat.le_refl _) hx11 (fun b h => by
    rcases h with h | h
    · omega
    · cases h)
  have hog : ∀ k, o = some k → ¬ k = gx := fun k e => by
    rcases hos with h | ⟨k', h, hk⟩
    · rw [h] at e; cases e
    · rw [h] at e; injection e with e; omega
  clear hx10 hx11 hp10 hos
  go_wp2_with fail
  refine hrp w11 (by decide) hr11 (hr.below hb10 (Nat.le_refl _)) (fun ad e hn => by have := hA1 ad e hn; omega) _ ?_
  intro w12 hr12 hx12
  have hp12 := hp11.ext hx12 hgpx hog
  replace hb10 := below_ext hb10 (Nat.le_refl _) hx12 (fun b h => by omega)
  clear hrp hr11 hp11 hx12 hA1
  replace hr := hr.below hb10 (Nat.le_refl _)
  replace hb1 := hb1.trans (hb10.mono hb1.size)
  clear hb10
  have hpz := penEnd_size u e1
  obtain ⟨T, e2, hpe⟩ : ∃ T e2, penEnd u e1 = (T, e2) := ⟨_, _, rfl⟩
  rw [hpe] at hpz
  dsimp only at hpz
  have hbk : e2 = 0 → pairsT T 0 0 = (l, T.size, 0) := fun e => hback T (by rw [hpe, e])
  have HBK := Lib.hid hbk
  have HPE := Lib.hid hpe
  clear hpe hback hbk
  go_wp2_with fail
  refine (pen_End _ gp _ _ _ _ _ hp12).mono ?_
  rw [HPE.out]
  rintro y2 w' ⟨rfl, rfl⟩
  go_wp2_with fail
  refine fresh_d (fun W => Pen W w8.heap.size gp o u mx e1 ∧ RPen W gx u mx e1 ∧ Below w.heap.size w W ∧ Row W A (flat itC l)) (fun n => ⟨hp12.drewN n, hr12, below_drewN hb1 n, hr⟩) (by have h := ref02_End gx u mx e1 _ hr12; rw [HPE.out] at h; exact h) ?_
  rintro w13 ⟨hp13, hr13, hb13, hrow⟩
  clear hp12 hr12 hb1 hr HPE
  go_upto_region 10 with fail
  go_cut [61] (fun s61 wx => s61 = .bool false ∧ Row wx A (flat itC l) ∧ Below w.heap.size w wx)
  case first =>
    have hS0 : w13.drew.cell? ⟨gx, 0, none⟩ = some (.string u) := (RPen.cells (w := w13.drew) hr13).1
    refine wp_region_held_drew (S := fun w' => w'.cell? ⟨gx, 0, none⟩ = some (.string u)) (by kernel_rfl) hS0 (fun hHeld => ?_)
    clear hS0
    replace hp13 : Pen w13.drew _ _ _ _ _ _ := hp13.drewN 1
    replace hr13 : RPen w13.drew gx u mx e1 := hr13
    replace hrow : Row w13.drew _ _ := hrow
    replace hb13 : Below w.heap.size w w13.drew := below_drewN hb13 1
    generalize w13.drew = w14 at *
    refine held_take (i := 0) (v := ?_) rfl (by kernel_rfl) (by kernel_rfl) (by kernel_rfl) (fun _ _ _ h => h) (by rfl) (by assumption) (fun w hSw => ?_) ?_
    rotate_left
    · (try dsimp only at hSw)
      go_simp
      try with_reducible rfl
    try simp only [Act.put, List.setIfInBounds_toArray, List.set_cons_zero, List.set_cons_succ]
    refine held_take (i := 2) (v := ?_) rfl (by kernel_rfl) (by kernel_rfl) (by kernel_rfl) (fun _ _ _ h => h) (by rfl) (by assumption) (fun w hSw => ?_) ?_
    rotate_left
    · (try dsimp only at hSw)
      go_simp
      try with_reducible rfl
    try simp only [Act.put, List.setIfInBounds_toArray, List.set_cons_zero, List.set_cons_succ]
    refine wpAnyH_ready (rs := [1]) (by kernel_rfl) (by simp) ?_
    refine held_cons (i := 1) rfl (by rfl) (fun K hK => ?_) AllReadyH.nil
    go_simp
    refine pairs_Check l A c w14 hrow ?_
    intro w15 hb15
    replace hp13 := hp13.ext (Ext.of_below hb15) (Nat.not_le.2 hp13.lt) (fun k e => Nat.not_le.2 (hp13.own e).2.1)
    replace hr13 : RPen w15 gx u mx e1 := Blk.below hr13 hb15 (Blk.lt hr13)
    replace hrow := hrow.below hb15 (Nat.le_refl _)
    replace hb13 := hb13.trans (hb15.mono hb13.size)
    clear hb15
    dsimp only
    refine hK.out _ _ (RPen.cells hr13).1 (fun hHeld => ?_)
    clear hK K
    try simp only [Act.put, List.setIfInBounds_toArray, List.set_cons_zero, List.set_cons_succ]
    refine wpAnyH_ready (rs := [3]) (by kernel_rfl) (by simp) ?_
    refine held_cons (i := 3) rfl (by rfl) (fun K hK => ?_) AllReadyH.nil
    go_simp
    refine ref14_Check l A c w15 hrow ?_
    intro w16 hb16
    replace hp13 := hp13.ext (Ext.of_below hb16) (Nat.not_le.2 hp13.lt) (fun k e => Nat.not_le.2 (hp13.own e).2.1)
    replace hr13 : RPen w16 gx u mx e1 := Blk.below hr13 hb16 (Blk.lt hr13)
    replace hrow := hrow.below hb16 (Nat.le_refl _)
    replace hb13 := hb13.trans (hb16.mono hb13.size)
    clear hb16
    dsimp only
    refine hK.out _ _ (RPen.cells hr13).1 (fun hHeld => ?_)
    clear hK K
    try simp only [Act.put, List.setIfInBounds_toArray, List.set_cons_zero, List.set_cons_succ]
    generalize checkL 8 (prF l) l.length = ck at *
    refine held_take (i := 4) (v := ?_) rfl (by kernel_rfl) (by kernel_rfl) (by kernel_rfl) (fun _ _ _ h => h) (by rfl) (by assumption) (fun w hSw => ?_) ?_
    rotate_left
    · (try dsimp only at hSw)
      go_simp
      try with_reducible rfl
    try simp only [Act.put, List.setIfInBounds_toArray, List.set_cons_zero, List.set_cons_succ]
    refine held_take (i := 5) (v := ?_) rfl (by kernel_rfl) (by kernel_rfl) (by kernel_rfl) (fun _ _ _ h => h) (by rfl) (by assumption) (fun w hSw => ?_) ?_
    rotate_left
    · (try dsimp only at hSw)
      go_simp
      try with_reducible rfl
    try simp only [Act.put, List.setIfInBounds_toArray, List.set_cons_zero, List.set_cons_succ]
    refine held_take (i := 6) (v := ?_) rfl (by kernel_rfl) (by kernel_rfl) (by kernel_rfl) (fun _ _ _ h => h) (by rfl) (by assumption) (fun w hSw => ?_) ?_
    rotate_left
    · (try dsimp only at hSw)
      go_simp
      try with_reducible rfl
    try simp only [Act.put, List.setIfInBounds_toArray, List.set_cons_zero, List.set_cons_succ]
    refine held_take (i := 7) (v := ?_) rfl (by kernel_rfl) (by kernel_rfl) (by kernel_rfl) (fun _ _ _ h => h) (by rfl) (by assumption) (fun w hSw => ?_) ?_
    rotate_left
    · (try dsimp only at hSw)
      go_simp
      try with_reducible rfl
    try simp only [Act.put, List.setIfInBounds_toArray, List.set_cons_zero, List.set_cons_succ]
    refine held_take (i := 8) (v := ?_) rfl (by kernel_rfl) (by kernel_rfl) (by kernel_rfl) (fun _ _ _ h => h) (by rfl) (by assumption) (fun w hSw => ?_) ?_
    rotate_left
    · (try dsimp only at hSw)
      go_simp
      try with_reducible rfl
    try simp only [Act.put, List.setIfInBounds_toArray, List.set_cons_zero, List.set_cons_succ]
    refine held_take (i := 9) (v := ?_) rfl (by kernel_rfl) (by kernel_rfl) (by kernel_rfl) (fun _ _ _ h => h) (by rfl) (by assumption) (fun w hSw => ?_) ?_
    rotate_left
    · (try dsimp only at hSw)
      go_simp
      try with_reducible rfl
    try simp only [Act.put, List.setIfInBounds_toArray, List.set_cons_zero, List.set_cons_succ]
    refine held_take (i := 10) (v := ?_) rfl (by kernel_rfl) (by kernel_rfl) (by kernel_rfl) (fun _ _ _ h => h) (by rfl) (by assumption) (fun w hSw => ?_) ?_
    rotate_left
    · (try dsimp only at hSw)
      go_simp
      try with_reducible rfl
    try simp only [Act.put, List.setIfInBounds_toArray, List.set_cons_zero, List.set_cons_succ]
    refine held_take (i := 11) (v := ?_) rfl (by kernel_rfl) (by kernel_rfl) (by kernel_rfl) (fun _ _ _ h => h) (by rfl) (by assumption) (fun w hSw => ?_) ?_
    rotate_left
    · (try dsimp only at hSw)
      go_simp
      try with_reducible rfl
    try simp only [Act.put, List.setIfInBounds_toArray, List.set_cons_zero, List.set_cons_succ]
    refine held_take (i := 12) (v := ?_) rfl (by kernel_rfl) (by kernel_rfl) (by kernel_rfl) (fun _ _ _ h => h) (by rfl) (by assumption) (fun w hSw => ?_) ?_
    rotate_left
    · (try dsimp only at hSw)
      go_simp
      try with_reducible rfl
    try simp only [Act.put, List.setIfInBounds_toArray, List.set_cons_zero, List.set_cons_succ]
    refine held_take (i := 13) (v := ?_) rfl (by kernel_rfl) (by kernel_rfl) (by kernel_rfl) (fun _ _ _ h => h) (by rfl) (by assumption) (fun w hSw => ?_) ?_
    rotate_left
    · (try dsimp only at hSw)
      go_simp
      try with_reducible rfl
    try simp only [Act.put, List.setIfInBounds_toArray, List.set_cons_zero, List.set_cons_succ]
    refine held_take (i := 14) (v := ?_) rfl (by kernel_rfl) (by kernel_rfl) (by kernel_rfl) (fun _ _ _ h => h) (by rfl) (by assumption) (fun w hSw => ?_) ?_
    rotate_left
    · (try dsimp only at hSw)
      go_simp
      try with_reducible rfl
    try simp only [Act.put, List.setIfInBounds_toArray, List.set_cons_zero, List.set_cons_succ]
    refine held_take (i := 15) (v := ?_) rfl (by kernel_rfl) (by kernel_rfl) (by kernel_rfl) (fun _ _ _ h => h) (by rfl) (by assumption) (fun w hSw => ?_) ?_
    rotate_left
    · (try dsimp only at hSw)
      go_simp
      try with_reducible rfl
    try simp only [Act.put, List.setIfInBounds_toArray, List.set_cons_zero, List.set_cons_succ]
    refine held_take (i := 16) (v := ?_) rfl (by kernel_rfl) (by kernel_rfl) (by kernel_rfl) (fun _ _ _ h => h) (by rfl) (by assumption) (fun w hSw => ?_) ?_
    rotate_left
    · (try dsimp only at hSw)
      go_simp
      try with_reducible rfl
    try simp only [Act.put, List.setIfInBounds_toArray, List.set_cons_zero, List.set_cons_succ]
    refine held_take (i := 18) (v := ?_) rfl (by kernel_rfl) (by kernel_rfl) (by kernel_rfl) (fun _ _ _ h => h) (by rfl) (by assumption) (fun w hSw => ?_) ?_
    rotate_left
    · (try dsimp only at hSw)
      go_simp
      try with_reducible rfl
    try simp only [Act.put, List.setIfInBounds_toArray, List.set_cons_zero, List.set_cons_succ]
    refine held_take (i := 19) (v := ?_) rfl (by kernel_rfl) (by kernel_rfl) (by kernel_rfl) (fun _ _ _ h => h) (by rfl) (by assumption) (fun w hSw => ?_) ?_
    rotate_left
    · (try dsimp only at hSw)
      go_simp
      try with_reducible rfl
    try simp only [Act.put, List.setIfInBounds_toArray, List.set_cons_zero, List.set_cons_succ]
    refine held_take (i := 20) (v := ?_) rfl (by kernel_rfl) (by kernel_rfl) (by kernel_rfl) (fun _ _ _ h => h) (by rfl) (by assumption) (fun w hSw => ?_) ?_
    rotate_left
    · (try dsimp only at hSw)
      go_simp
      try with_reducible rfl
    try simp only [Act.put, List.setIfInBounds_toArray, List.set_cons_zero, List.set_cons_succ]
    refine held_take (i := 21) (v := ?_) rfl (by kernel_rfl) (by kernel_rfl) (by kernel_rfl) (fun _ _ _ h => h) (by rfl) (by assumption) (fun w hSw => ?_) ?_
    rotate_left
    · (try dsimp only at hSw)
      go_simp
      try with_reducible rfl
    try simp only [Act.put, List.setIfInBounds_toArray, List.set_cons_zero, List.set_cons_succ]
    refine held_take (i := 22) (v := ?_) rfl (by kernel_rfl) (by kernel_rfl) (by kernel_rfl) (fun _ _ _ h => h) (by rfl) (by assumption) (fun w hSw => ?_) ?_
    rotate_left
    · (try dsimp only at hSw)
      go_simp
      try with_reducible rfl
    try simp only [Act.put, List.setIfInBounds_toArray, List.set_cons_zero, List.set_cons_succ]
    refine wpAnyH_ready (rs := [17]) (by kernel_rfl) (by simp) ?_
    refine held_cons (i := 17) rfl (by rfl) (fun K hK => ?_) AllReadyH.nil
    go_simp
    refine (pen_Len _ gp _ _ _ _ _ hp13).mono ?_
    rintro y w' ⟨rfl, rfl⟩
    dsimp only
    refine hK.out _ _ hHeld (fun hHeld => ?_)
    clear hK K
    try simp only [Act.put, List.setIfInBounds_toArray, List.set_cons_zero, List.set_cons_succ]
    refine held_take (i := 23) (v := ?_) rfl (by kernel_rfl) (by kernel_rfl) (by kernel_rfl) (fun _ _ _ h => h) (by rfl) (by assumption) (fun w hSw => ?_) ?_
    rotate_left
    · (try dsimp only at hSw)
      go_simp
      try with_reducible rfl
    try simp only [Act.put, List.setIfInBounds_toArray, List.set_cons_zero, List.set_cons_succ]
    refine held_take (i := 24) (v := ?_) rfl (by kernel_rfl) (by kernel_rfl) (by kernel_rfl) (fun _ _ _ h => h) (by rfl) (by assumption) (fun w hSw => ?_) ?_
    rotate_left
    · (try dsimp only at hSw)
      go_simp
      try with_reducible rfl
    try simp only [Act.put, List.setIfInBounds_toArray, List.set_cons_zero, List.set_cons_succ]
    refine wpAnyH_done (by kernel_rfl) ?_ _
    go_wp2_with fail
    go_meet
    exact ⟨rfl, hrow, hb13⟩
  case rest =>
  clear hrow hb13 hp13 hr13
  obtain ⟨rfl, hrow, hb13⟩ := hcut
  by_cases hf : e2 = 0
  rotate_left
  · have hfb : (e2 != 0) = true := by simpa using hf
    go_wp2_with fail
    first | exact ⟨rfl, hb13⟩ | (go_ret; exact ⟨rfl, hb13⟩)
  subst hf
  have htb := HBK.out rfl
  have HTB := Lib.hid htb
  clear htb HBK
  have htz : T.size ≤ 140737488351232 := by omega
  go_wp2_with fail
  refine cursor_New T wc ?_
  intro cc w20 hc20 hcw hb20
  have hrl : ∀ ad, A = some ad → flat itC l ≠ [] → ¬ ad.block = cc := fun ad e hn => by have := Row.lt hrow hn ad e; omega
  replace hrow := hrow.below hb20 (Nat.le_refl _)
  have hcw2 : w.heap.size ≤ cc := Nat.le_trans hb13.size hcw
  replace hb13 := hb13.trans (hb20.mono hb13.size)
  go_wp2_with fail
  refine pairs_Take cc T 0 0 w20 hc20 (Nat.zero_le _) htz ?_
  rw [HTB.out]
  dsimp only
  intro A2 c2 w21 h2 _ hA2 hc21 _ hx21
  replace hrow := hrow.ext hx21 hrl
  replace hb13 := below_ext hb13 (Nat.le_refl _) hx21 (fun b e => e ▸ hcw2)
  have hcl := Blk.lt hc20
  go_wp2_with fail
  refine cursor_End cc T T.size 0 w21 hc21 (Nat.le_refl _) (by omega) ?_
  rw [show endR T T.size 0 = 0 by unfold endR; rw [if_neg (by omega)]]
  intro w22 hc22 hx22
  replace hrow := hrow.ext hx22 hrl
  replace h2 := h2.ext hx22 (fun ad e _ hS => by have := hA2 ad e; omega)
  replace hb13 := below_ext hb13 (Nat.le_refl _) hx22 (fun b e => e ▸ hcw2)
  go_wp2_with fail
  refine ref14_Same l l A2 A c2 c w22 h2 hrow (by omega) ?_
  rintro w23 n rfl
  rw [decide_eq_true rfl]
  replace hb13 := below_drewN hb13 n
  go_wp2_with fail
  first | exact ⟨rfl, hb13⟩ | (go_ret; exact ⟨rfl, hb13⟩)
theorem law14_puts' (l : List It) {len : Nat} (hn : l.length = len) (A : Option Addr) (c : Nat) (max : Int) (w : World) (hr : Row w A (flat itC l)) (hm : max ≤ 9223372036854775807) :
    Calls Try.prog 5 #[.slice A len c, .int .i64 max] w fun e w' => e = .returned (.bool true) ∧ Below w.heap.size w w' := by
  subst hn
  exact law14_puts l A c max w hr hm
end
end Go.Proofs.Ytgjiedjfplbipaa
