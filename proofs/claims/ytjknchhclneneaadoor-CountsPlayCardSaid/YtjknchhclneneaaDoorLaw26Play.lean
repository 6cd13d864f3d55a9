/- CountsPlay's walk. -/
import Derived.Test.YtjknchhclneneaaDoorLaw26Turn
import Derived.Test.YtjknchhclneneaaDoorCountRefAdd
import Derived.Test.YtjknchhclneneaaDoorCountNil
namespace Go.Proofs.YtjknchhclneneaaDoor
open Go.RowKit Go.Lib
section
def Off (g : Nat) (mb : Option Nat) (E : List Cw) (x : Nat) (A : Option Addr) (n c : Nat) : Prop := ∀ b, CtF g mb E b → ¬ RF x A n c b
structure Both (w0 w : World) (g x : Nat) (j : Nat) (ma : Option Nat) (E : List Cw) (A : Option Addr) (c : Nat) : Prop where
  ct : CtO w g false ma E
  rc : RCt w x w0.heap.size A c (toC E)
  len : (toC E).length ≤ j
  rng : RngC (toC E)
  fc : ∀ b, CtF g ma E b → w0.heap.size ≤ b
  fr : w0.heap.size ≤ x
  off : Off g ma E x A (toC E).length c
  bel : RowKit.Below w0.heap.size w0 w
theorem Both.fresh {w0 w w' : World} {g x j : Nat} {ma : Option Nat} {E : List Cw} {A : Option Addr} {c : Nat} (h : Both w0 w g x j ma E A c) (hb : RowKit.Below w.heap.size w w') : Both w0 w' g x j ma E A c :=
  ⟨h.ct.below hb, h.rc.below hb, h.len, h.rng, h.fc, h.fr, h.off, h.bel.trans (hb.mono h.bel.size)⟩
theorem Both.srt {w0 w : World} {g x j : Nat} {ma : Option Nat} {E : List Cw} {A : Option Addr} {c : Nat} (h : Both w0 w g x j ma E A c) : Srt kCt (toC E) := toC_srt h.ct.srt
theorem Both.small {w0 w : World} {g x j : Nat} {ma : Option Nat} {E : List Cw} {A : Option Addr} {c : Nat} (h : Both w0 w g x j ma E A c) : ∀ y ∈ toC E, y.1.size ≤ 32 := fun y hy => by
  obtain ⟨z, hz, rfl⟩ := List.mem_map.1 hy
  exact h.ct.small z hz
set_option maxHeartbeats 4000000 in
set_option maxRecDepth 100000 in
theorem law26_play (l : List Ct) {n : Nat} (hn : l.length = n) (A : Option Addr) (c : Nat) (s : ByteArray) (t : Int) (w : World) (h : Row w A (flat acC l)) (hok : ∀ x ∈ l, okAct x) (hs : s.size ≤ 140737488351232) (ht : 0 ≤ t ∧ t ≤ 255) (hp : ∀ w', RowKit.Below w.heap.size w w' → Pow10 w') :
    Calls Tryd.prog 3 #[.slice A n c, .string s, .int .u8 t] w fun e w' => e = .returned (.bool true) ∧ RowKit.Below w.heap.size w w' := by
  subst hn
  have HOK := Lib.hid hok
  have HP := Lib.hid hp
  clear hok hp
  obtain ⟨k, rfl⟩ : ∃ k : Nat, t = k := ⟨t.toNat, by omega⟩
  have hk : k < 256 := by omega
  have hl0 : (0 : Int) ≤ (l.length : Int) := Int.natCast_nonneg _
  have hk0 : (0 : Int) ≤ (k : Int) := Int.natCast_nonneg _
  clear ht
  go_enter Tryd.func3, Tryd.ntmps3
  go_wp2_with fail
  refine law26_awake w ?_
  intro w1 hx
  by_cases h100 : 300 < l.length
  · have e1 : (300 : Int) < (l.length : Int) := by omega
    have e2 : decide ((300 : Int) < (l.length : Int)) = true := decide_eq_true e1
    go_wp2_with fail
    first | exact ⟨rfl, hx⟩ | (go_ret; exact ⟨rfl, hx⟩)
  have e1 : ¬ (300 : Int) < (l.length : Int) := by omega
  have e2 : decide ((300 : Int) < (l.length : Int)) = false := decide_eq_false e1
  by_cases hz : 100 < s.size
  · have e3 : (100 : Int) < (s.size : Int) := by omega
    have e4 : decide ((100 : Int) < (s.size : Int)) = true := decide_eq_true e3
    go_wp2_with fail
    first | exact ⟨rfl, hx⟩ | (go_ret; exact ⟨rfl, hx⟩)
  have e3 : ¬ (100 : Int) < (s.size : Int) := by omega
  have e4 : decide ((100 : Int) < (s.size : Int)) = false := decide_eq_false e3
  go_upto_region 6 with fail
  have hcz : CtO (w1.alloc (.cells (cntC (.map none) false) 40)) w1.heap.size false none [] :=
    ⟨Blk.new _ _ _, .inl ⟨rfl, rfl⟩, fun x hx => absurd hx (by simp), List.Pairwise.nil, trivial, fun x hx => absurd hx (by simp)⟩
  have hbz := (Below.refl w1.heap.size w1).alloc (Nat.le_refl _) (.cells (cntC (.map none) false) 40)
  rw [← zero_counts] at hcz hbz
  go_upto_region 7 with fail
  have hx1s := hx.size
  replace hx := hx.trans (hbz.mono hx.size)
  generalize hgz : w1.heap.size = gz at *
  have hgzl : w.heap.size ≤ gz := hx1s
  clear hgz hbz
  generalize w1.alloc _ = wz at *
  obtain ⟨kr, hkr⟩ : ∃ kr, kindR k = kr := ⟨_, rfl⟩
  have hke : (kr.toList != kr.toList) = false := by simp [bne]
  have hnz : (((([] : List Cw).length : Nat) : Int) != 0) = false := rfl
  go_wp2_with fail
  refine (counts_Add_nil _ _ _).mono ?_
  rintro e w' ⟨rfl, rfl⟩
  go_wp2_with fail
  refine (counts_Get_nil _ _).mono ?_
  rintro e w' ⟨rfl, rfl⟩
  go_wp2_with fail
  refine (counts_Len_nil _).mono ?_
  rintro e w' ⟨rfl, rfl⟩
  go_wp2_with fail
  refine (counts_Rows_nil _).mono ?_
  rintro e w' ⟨rfl, rfl⟩
  go_wp2_with fail
  refine counts_Kind_nil wz k hk ?_
  intro w2 hb2
  replace hcz := hcz.below hb2
  replace hx := hx.trans (hb2.mono hx.size)
  rw [hkr]
  clear hb2
  go_wp2_with fail
  refine (ref26_Kind w2 k hk).mono ?_
  rw [hkr]
  rintro e w' ⟨rfl, rfl⟩
  go_wp2_with fail
  refine counts_Kind w2 gz false none [] k hcz hk ?_
  rw [hkr]
  intro w3 hc3 hx3
  replace hx := below_self hx (Nat.le_refl _) hx3 hgzl
  clear hcz hx3
  go_wp2_with fail
  refine (ref26_Kind w3 k hk).mono ?_
  rw [hkr]
  rintro e w' ⟨rfl, rfl⟩
  go_wp2_with fail
  refine (counts_Len w3 gz true none [] hc3).mono ?_
  rintro e w' ⟨rfl, rfl⟩
  go_wp2_with fail
  refine counts_New w3 ?_
  intro w4 hc4 hb4
  have hg4 := hx.size
  have hlt4 := hc4.obj.lt
  replace hx := hx.trans (hb4.mono hx.size)
  have hfa : ∀ b, CtF w3.heap.size none [] b → b = w3.heap.size := fun b hb => by
    rcases hb with rfl | hb | ⟨x, hx, _⟩
    · rfl
    · cases hb
    · exact absurd hx (by simp)
  clear hb4 hc3
  generalize w3.heap.size = g at *
  go_upto_region 10 with fail
  have hbx := (Below.refl w4.heap.size w4).alloc (Nat.le_refl _) (.cells #[.slice none 0 0] 51)
  have hoff : Off g none [] w4.heap.size none 0 0 := fun b hb hr => by
    rw [hfa b hb] at hr
    rcases hr with hr | hr
    · omega
    · cases hr
  have hB : ∃ ma E A c, Both w (w4.alloc (.cells #[.slice none 0 0] 51)) g w4.heap.size 0 ma E A c := ⟨none, [], none, 0, hc4.below hbx, ⟨Blk.new _ _ _, Own.nil _ _ _ _⟩, Nat.le_refl _, fun x hx => absurd hx (by simp [toC]), fun b hb => by rw [hfa b hb]; exact hg4, hx.size, hoff, hx.trans (hbx.mono hx.size)⟩
  clear hoff
  clear hc4 hbx hx hfa hg4 hgzl
  generalize w4.alloc (.cells #[.slice none 0 0] 51) = w5 at *
  generalize w4.heap.size = x at *
  go_wp2_with fail
  go_loopw [11] (fun i wx => ∃ j : Nat, i = .int .i64 (j : Int) ∧ j ≤ l.length ∧ ∃ ma E A c, Both w wx g x j ma E A c) (fun i _ => l.length - (RowKit.intOf i).toNat)
  case atStart => exact ⟨0, rfl, Nat.zero_le _, hB⟩
  case round =>
    clear hB
    obtain ⟨j, rfl, hj, ma, E, A2, c2, hb⟩ := hrel
    have hj0 : (0 : Int) ≤ (j : Int) := Int.natCast_nonneg _
    by_cases hlt : j < l.length
    · have hj1 : (j : Int) < (l.length : Int) := by omega
      have hjd : decide ((j : Int) < (l.length : Int)) = true := decide_eq_true hj1
      obtain ⟨b, o, hA, hlb, d0, d1⟩ := h.ac j hlt
      have hok1 : okAct (l.getD j (emp, 0)) := HOK.out _ (by rw [getD_at l j _ hlt]; exact List.getElem_mem hlt)
      generalize l.getD j (emp, 0) = y at *
      obtain ⟨q, n⟩ := y
      dsimp only at d0 d1
      subst hA
      have hcell := fun (wx : World) (hb : RowKit.Below w.heap.size w wx) => And.intro (cell_below hb d0) (cell_below hb d1)
      have HCELL := Lib.hid hcell
      have d0' := cell_below hb.bel d0
      have d1' := cell_below hb.bel d1
      clear d0 d1 hcell
      by_cases hq : 100 < q.size
      · have e5 : decide ((100 : Int) < (q.size : Int)) = true := decide_eq_true (by omega)
        have e6 : (100 : Int) < (q.size : Int) := by omega
        go_wp2_with fail
        first | exact ⟨rfl, hb.bel⟩ | (go_ret; exact ⟨rfl, hb.bel⟩)
      have e5 : decide ((100 : Int) < (q.size : Int)) = false := decide_eq_false (by omega)
      have e6 : ¬ (100 : Int) < (q.size : Int) := by omega
      go_wp2_with fail
      clear e5 e6
      have s0 : wr.drew.cell? ⟨b, o + j * 2, none⟩ = some (.string q) := d0'
      have s1 : wr.drew.cell? ⟨b, o + j * 2 + 1, none⟩ = some (.int .i64 n) := d1'
      refine wp_region_held_drew (S := fun w' => w'.cell? ⟨b, o + j * 2, none⟩ = some (.string q) ∧ w'.cell? ⟨b, o + j * 2 + 1, none⟩ = some (.int .i64 n)) (by kernel_rfl) ⟨s0, s1⟩ (fun hHeld => ?_)
      have hSS := And.intro s0 s1
      clear d0' d1' s0 s1 hHeld
      replace hb : Both w wr.drew g x j ma E A2 c2 := ⟨hb.ct.ext (S := fun _ => False) ((Ext.refl _ _).drew) (fun _ _ => id), hb.rc.ext (S := fun _ => False) ((Ext.refl _ _).drew) (fun _ _ => id), hb.len, hb.rng, hb.fc, hb.fr, hb.off, below_drewN hb.bel 1⟩
      generalize wr.drew = w6 at *
      refine held_take (i := 0) (v := ?_) rfl (by kernel_rfl) (by kernel_rfl) (by kernel_rfl) (fun _ _ _ h => h) (by rfl) (by assumption) (fun w hSw => ?_) ?_
      rotate_left
      · (try dsimp only at hSw)
        go_simp
        try with_reducible rfl
      try simp only [Act.put, List.setIfInBounds_toArray, List.set_cons_zero, List.set_cons_succ]
      refine held_take (i := 1) (v := ?_) rfl (by kernel_rfl) (by kernel_rfl) (by kernel_rfl) (fun _ _ _ h => h) (by rfl) (by assumption) (fun w hSw => ?_) ?_
      rotate_left
      · (try dsimp only at hSw)
        go_simp
        try with_reducible rfl
      try simp only [Act.put, List.setIfInBounds_toArray, List.set_cons_zero, List.set_cons_succ]
      refine held_take (i := 2) (v := ?_) rfl (by kernel_rfl) (by kernel_rfl) (by kernel_rfl) (fun _ _ _ h => h) (by rfl) (by assumption) (fun w hSw => ?_) ?_
      rotate_left
      · (try dsimp only at hSw)
        go_simp
        try with_reducible rfl
      try simp only [Act.put, List.setIfInBounds_toArray, List.set_cons_zero, List.set_cons_succ]
      refine held_take (i := 3) (v := ?_) rfl (by kernel_rfl) (by kernel_rfl) (by kernel_rfl) (fun _ _ _ h => h) (by rfl) (by assumption) (fun w hSw => ?_) ?_
      rotate_left
      · (try dsimp only at hSw)
        go_simp
        try with_reducible rfl
      try simp only [Act.put, List.setIfInBounds_toArray, List.set_cons_zero, List.set_cons_succ]
      refine held_take (i := 4) (v := ?_) rfl (by kernel_rfl) (by kernel_rfl) (by kernel_rfl) (fun _ _ _ h => h) (by rfl) (by assumption) (fun w hSw => ?_) ?_
      rotate_left
      · (try dsimp only at hSw)
        go_simp
        try with_reducible rfl
      try simp only [Act.put, List.setIfInBounds_toArray, List.set_cons_zero, List.set_cons_succ]
      refine held_take (i := 5) (v := ?_) rfl (by kernel_rfl) (by kernel_rfl) (by kernel_rfl) (fun _ _ _ h => h) (by rfl) (by assumption) (fun w hSw => ?_) ?_
      rotate_left
      · (try dsimp only at hSw)
        go_simp
        try with_reducible rfl
      try simp only [Act.put, List.setIfInBounds_toArray, List.set_cons_zero, List.set_cons_succ]
      refine held_take (i := 6) (v := ?_) rfl (by kernel_rfl) (by kernel_rfl) (by kernel_rfl) (fun _ _ _ h => h) (by rfl) (by assumption) (fun w hSw => ?_) ?_
      rotate_left
      · (try dsimp only at hSw)
        go_simp
        try with_reducible rfl
      try simp only [Act.put, List.setIfInBounds_toArray, List.set_cons_zero, List.set_cons_succ]
      refine held_take (i := 7) (v := ?_) rfl (by kernel_rfl) (by kernel_rfl) (by kernel_rfl) (fun _ _ _ h => h) (by rfl) (by assumption) (fun w hSw => ?_) ?_
      rotate_left
      · (try dsimp only at hSw)
        go_simp
        try with_reducible rfl
      try simp only [Act.put, List.setIfInBounds_toArray, List.set_cons_zero, List.set_cons_succ]
      refine held_take (i := 8) (v := ?_) rfl (by kernel_rfl) (by kernel_rfl) (by kernel_rfl) (fun _ _ _ h => h) (by rfl) (by assumption) (fun w hSw => ?_) ?_
      rotate_left
      · (try dsimp only at hSw)
        go_simp
        try with_reducible rfl
      try simp only [Act.put, List.setIfInBounds_toArray, List.set_cons_zero, List.set_cons_succ]
      refine held_take (i := 9) (v := ?_) rfl (by kernel_rfl) (by kernel_rfl) (by kernel_rfl) (fun _ _ _ h => h) (by rfl) (by assumption) (fun w hSw => ?_) ?_
      rotate_left
      · (try dsimp only at hSw)
        go_simp
        try with_reducible rfl
      try simp only [Act.put, List.setIfInBounds_toArray, List.set_cons_zero, List.set_cons_succ]
      refine held_take (i := 10) (v := ?_) rfl (by kernel_rfl) (by kernel_rfl) (by kernel_rfl) (fun _ _ _ h => h) (by rfl) (by assumption) (fun w hSw => ?_) ?_
      rotate_left
      · (try dsimp only at hSw)
        go_simp
        try with_reducible rfl
      try simp only [Act.put, List.setIfInBounds_toArray, List.set_cons_zero, List.set_cons_succ]
      refine held_take (i := 12) (v := ?_) rfl (by kernel_rfl) (by kernel_rfl) (by kernel_rfl) (fun _ _ _ h => h) (by rfl) (by assumption) (fun w hSw => ?_) ?_
      rotate_left
      · (try dsimp only at hSw)
        go_simp
        try with_reducible rfl
      try simp only [Act.put, List.setIfInBounds_toArray, List.set_cons_zero, List.set_cons_succ]
      refine held_take (i := 13) (v := ?_) rfl (by kernel_rfl) (by kernel_rfl) (by kernel_rfl) (fun _ _ _ h => h) (by rfl) (by assumption) (fun w hSw => ?_) ?_
      rotate_left
      · (try dsimp only at hSw)
        go_simp
        try with_reducible rfl
      try simp only [Act.put, List.setIfInBounds_toArray, List.set_cons_zero, List.set_cons_succ]
      refine held_take (i := 14) (v := ?_) rfl (by kernel_rfl) (by kernel_rfl) (by kernel_rfl) (fun _ _ _ h => h) (by rfl) (by assumption) (fun w hSw => ?_) ?_
      rotate_left
      · (try dsimp only at hSw)
        go_simp
        try with_reducible rfl
      try simp only [Act.put, List.setIfInBounds_toArray, List.set_cons_zero, List.set_cons_succ]
      refine held_take (i := 15) (v := ?_) rfl (by kernel_rfl) (by kernel_rfl) (by kernel_rfl) (fun _ _ _ h => h) (by rfl) (by assumption) (fun w hSw => ?_) ?_
      rotate_left
      · (try dsimp only at hSw)
        go_simp
        try with_reducible rfl
      try simp only [Act.put, List.setIfInBounds_toArray, List.set_cons_zero, List.set_cons_succ]
      refine held_take (i := 16) (v := ?_) rfl (by kernel_rfl) (by kernel_rfl) (by kernel_rfl) (fun _ _ _ h => h) (by rfl) (by assumption) (fun w hSw => ?_) ?_
      rotate_left
      · (try dsimp only at hSw)
        go_simp
        try with_reducible rfl
      try simp only [Act.put, List.setIfInBounds_toArray, List.set_cons_zero, List.set_cons_succ]
      refine held_take (i := 17) (v := ?_) rfl (by kernel_rfl) (by kernel_rfl) (by kernel_rfl) (fun _ _ _ h => h) (by rfl) (by assumption) (fun w hSw => ?_) ?_
      rotate_left
      · (try dsimp only at hSw)
        go_simp
        try with_reducible rfl
      try simp only [Act.put, List.setIfInBounds_toArray, List.set_cons_zero, List.set_cons_succ]
      refine held_take (i := 18) (v := ?_) rfl (by kernel_rfl) (by kernel_rfl) (by kernel_rfl) (fun _ _ _ h => h) (by rfl) (by assumption) (fun w hSw => ?_) ?_
      rotate_left
      · (try dsimp only at hSw)
        go_simp
        try with_reducible rfl
      try simp only [Act.put, List.setIfInBounds_toArray, List.set_cons_zero, List.set_cons_succ]
      refine held_take (i := 19) (v := ?_) rfl (by kernel_rfl) (by kernel_rfl) (by kernel_rfl) (fun _ _ _ h => h) (by rfl) (by assumption) (fun w hSw => ?_) ?_
      rotate_left
      · (try dsimp only at hSw)
        go_simp
        try with_reducible rfl
      try simp only [Act.put, List.setIfInBounds_toArray, List.set_cons_zero, List.set_cons_succ]
      refine held_take (i := 20) (v := ?_) rfl (by kernel_rfl) (by kernel_rfl) (by kernel_rfl) (fun _ _ _ h => h) (by rfl) (by assumption) (fun w hSw => ?_) ?_
      rotate_left
      · (try dsimp only at hSw)
        go_simp
        try with_reducible rfl
      try simp only [Act.put, List.setIfInBounds_toArray, List.set_cons_zero, List.set_cons_succ]
      refine held_take (i := 21) (v := ?_) rfl (by kernel_rfl) (by kernel_rfl) (by kernel_rfl) (fun _ _ _ h => h) (by rfl) (by assumption) (fun w hSw => ?_) ?_
      rotate_left
      · (try dsimp only at hSw)
        go_simp
        try with_reducible rfl
      try simp only [Act.put, List.setIfInBounds_toArray, List.set_cons_zero, List.set_cons_succ]
      refine held_take (i := 22) (v := ?_) rfl (by kernel_rfl) (by kernel_rfl) (by kernel_rfl) (fun _ _ _ h => h) (by rfl) (by assumption) (fun w hSw => ?_) ?_
      rotate_left
      · (try dsimp only at hSw)
        go_simp
        try with_reducible rfl
      try simp only [Act.put, List.setIfInBounds_toArray, List.set_cons_zero, List.set_cons_succ]
      refine wpAnyH_ready (rs := [11]) (by kernel_rfl) (by simp) ?_
      refine held_cons (i := 11) rfl (by rfl) (fun K hK => ?_) AllReadyH.nil
      go_simp
      have hlj := hb.len
      refine counts_Add w6 g false ma E q n hb.ct hok1.1 hok1.2 ?_
      intro w7 ma2 E2 hc7 he7 hx7 hq7
      have rc7 := hb.rc.ext hx7 (fun b hr hc => hb.off b hc hr)
      have off7 : Off g ma2 E2 x A2 (toC E).length c2 := fun b h1 h2 => by
        rcases hq7 b h1 with h1 | h1
        · exact hb.off b h1 h2
        · exact absurd (hb.rc.lt h2) (by omega)
      have fc7 : ∀ b, CtF g ma2 E2 b → w.heap.size ≤ b := fun b h1 => by
        rcases hq7 b h1 with h1 | h1
        · exact hb.fc b h1
        · exact Nat.le_trans hb.bel.size h1
      have bel7 := below_ext hb.bel (Nat.le_refl _) hx7 hb.fc
      have hln := add_len (toC E) q n
      have hrn := addC_rng (k := q) hb.rng hok1.2
      have hsr := hb.srt
      have hfr := hb.fr
      obtain ⟨L, hL⟩ : ∃ L, toC E = L := ⟨_, rfl⟩
      have hra := fun R hR => ref26_Add w7 x w.heap.size A2 c2 (toC E) q n rc7 bel7.size hsr (by omega) hok1.1 hok1.2 (R := R) hR
      rw [hL] at he7 hln hrn hra off7 rc7 ⊢
      obtain ⟨⟨r1, ok⟩, hr⟩ : ∃ r, addC L q n = r := ⟨_, rfl⟩
      rw [hr] at he7 hln hrn hra ⊢
      dsimp only at he7 hln hrn ⊢
      subst he7
      clear hx7 hq7 hb hSS hr hsr
      refine hK.out _ _ (HCELL.out _ bel7) (fun hHeld => ?_)
      clear hK K
      try simp only [Act.put, List.setIfInBounds_toArray, List.set_cons_zero, List.set_cons_succ]
      refine wpAnyH_ready (rs := [23]) (by kernel_rfl) (by simp) ?_
      refine held_cons (i := 23) rfl (by rfl) (fun K hK => ?_) AllReadyH.nil
      go_simp
      refine hra _ ?_
      intro w8 A3 c3 hr8 hx8 hq8
      dsimp only at hr8 hq8 ⊢
      have ct8 := hc7.ext hx8 (fun b hc hr => off7 b hc hr)
      have bel8 := below_ext bel7 (Nat.le_refl _) hx8 (fun b hb => by
        rcases hb with rfl | hb
        · exact hfr
        · exact (rc7.2.lt b hb).1)
      have off8 : Off g ma2 E2 x A3 (toC E2).length c3 := fun b h1 h2 => by
        rcases hq8 b h2 with h2 | h2
        · exact off7 b h1 h2
        · exact absurd (hc7.lt h1) (by omega)
      have hlE : (toC E2).length = E2.length := List.length_map _
      have hm : (toC E2).length ≤ 1000 := by rw [← hL] at hln; omega
      have HB : Hid (Both w w8 g x (j + 1) ma2 E2 A3 c3) := Lib.hid ⟨ct8, hr8, by rw [← hL] at hln; omega, hrn, fc7, hfr, off8, bel8⟩
      have c8 := hr8.cell
      rw [hlE] at c8
      clear hx8 hq8 hc7 rc7 off7 fc7 bel7 hra off8 hHeld hln hrn
      refine hK.out _ _ (HCELL.out _ bel8) (fun hHeld => ?_)
      clear hK K
      try simp only [Act.put, List.setIfInBounds_toArray, List.set_cons_zero, List.set_cons_succ]
      refine held_take (i := 24) (v := ?_) rfl (by kernel_rfl) (by kernel_rfl) (by kernel_rfl) (fun _ _ _ h => h) (by rfl) (by assumption) (fun w hSw => ?_) ?_
      rotate_left
      · (try dsimp only at hSw)
        go_simp
        try with_reducible rfl
      try simp only [Act.put, List.setIfInBounds_toArray, List.set_cons_zero, List.set_cons_succ]
      refine held_take (i := 25) (v := ?_) rfl (by kernel_rfl) (by kernel_rfl) (by kernel_rfl) (fun _ _ _ h => h) (by rfl) (by assumption) (fun w hSw => ?_) ?_
      rotate_left
      · (try dsimp only at hSw)
        go_simp
        try with_reducible rfl
      try simp only [Act.put, List.setIfInBounds_toArray, List.set_cons_zero, List.set_cons_succ]
      refine held_take (i := 26) (v := ?_) rfl (by kernel_rfl) (by kernel_rfl) (by kernel_rfl) (fun _ _ _ h => h) (by rfl) (by assumption) (fun w hSw => ?_) ?_
      rotate_left
      · (try dsimp only at hSw)
        go_simp
        try with_reducible rfl
      try simp only [Act.put, List.setIfInBounds_toArray, List.set_cons_zero, List.set_cons_succ]
      refine held_take (i := 27) (v := ?_) rfl (by kernel_rfl) (by kernel_rfl) (by kernel_rfl) (fun _ _ _ h => h) (by rfl) (by assumption) (fun w hSw => ?_) ?_
      rotate_left
      · (try dsimp only at hSw)
        go_simp
        try with_reducible rfl
      try simp only [Act.put, List.setIfInBounds_toArray, List.set_cons_zero, List.set_cons_succ]
      refine held_take (i := 28) (v := ?_) rfl (by kernel_rfl) (by kernel_rfl) (by kernel_rfl) (fun _ _ _ h => h) (by rfl) (by assumption) (fun w hSw => ?_) ?_
      rotate_left
      · (try dsimp only at hSw)
        go_simp
        try with_reducible rfl
      try simp only [Act.put, List.setIfInBounds_toArray, List.set_cons_zero, List.set_cons_succ]
      refine held_take (i := 29) (v := ?_) rfl (by kernel_rfl) (by kernel_rfl) (by kernel_rfl) (fun _ _ _ h => h) (by rfl) (by assumption) (fun w hSw => ?_) ?_
      rotate_left
      · (try dsimp only at hSw)
        go_simp
        try with_reducible rfl
      try simp only [Act.put, List.setIfInBounds_toArray, List.set_cons_zero, List.set_cons_succ]
      refine held_take (i := 30) (v := ?_) rfl (by kernel_rfl) (by kernel_rfl) (by kernel_rfl) (fun _ _ _ h => h) (by rfl) (by assumption) (fun w hSw => ?_) ?_
      rotate_left
      · (try dsimp only at hSw)
        go_simp
        try with_reducible rfl
      try simp only [Act.put, List.setIfInBounds_toArray, List.set_cons_zero, List.set_cons_succ]
      refine held_take (i := 31) (v := ?_) rfl (by kernel_rfl) (by kernel_rfl) (by kernel_rfl) (fun _ _ _ h => h) (by rfl) (by assumption) (fun w hSw => ?_) ?_
      rotate_left
      · (try dsimp only at hSw)
        go_simp
        try with_reducible rfl
      try simp only [Act.put, List.setIfInBounds_toArray, List.set_cons_zero, List.set_cons_succ]
      refine held_take (i := 33) (v := ?_) rfl (by kernel_rfl) (by kernel_rfl) (by kernel_rfl) (fun _ _ _ h => h) (by rfl) (by assumption) (fun w hSw => ?_) ?_
      rotate_left
      · (try dsimp only at hSw)
        go_simp
        try with_reducible rfl
      try simp only [Act.put, List.setIfInBounds_toArray, List.set_cons_zero, List.set_cons_succ]
      refine held_take (i := 34) (v := ?_) rfl (by kernel_rfl) (by kernel_rfl) (by kernel_rfl) (fun _ _ _ h => h) (by rfl) (by assumption) (fun w hSw => ?_) ?_
      rotate_left
      · (try dsimp only at hSw)
        go_simp
        try with_reducible rfl
      try simp only [Act.put, List.setIfInBounds_toArray, List.set_cons_zero, List.set_cons_succ]
      refine held_take (i := 35) (v := ?_) rfl (by kernel_rfl) (by kernel_rfl) (by kernel_rfl) (fun _ _ _ h => h) (by rfl) (by assumption) (fun w hSw => ?_) ?_
      rotate_left
      · (try dsimp only at hSw)
        go_simp
        try with_reducible rfl
      try simp only [Act.put, List.setIfInBounds_toArray, List.set_cons_zero, List.set_cons_succ]
      refine held_take (i := 36) (v := ?_) rfl (by kernel_rfl) (by kernel_rfl) (by kernel_rfl) (fun _ _ _ h => h) (by rfl) (by assumption) (fun w hSw => ?_) ?_
      rotate_left
      · (try dsimp only at hSw)
        go_simp
        try with_reducible rfl
      try simp only [Act.put, List.setIfInBounds_toArray, List.set_cons_zero, List.set_cons_succ]
      refine held_take (i := 37) (v := ?_) rfl (by kernel_rfl) (by kernel_rfl) (by kernel_rfl) (fun _ _ _ h => h) (by rfl) (by assumption) (fun w hSw => ?_) ?_
      rotate_left
      · (try dsimp only at hSw)
        go_simp
        try with_reducible rfl
      try simp only [Act.put, List.setIfInBounds_toArray, List.set_cons_zero, List.set_cons_succ]
      refine held_take (i := 38) (v := ?_) rfl (by kernel_rfl) (by kernel_rfl) (by kernel_rfl) (fun _ _ _ h => h) (by rfl) (by assumption) (fun w hSw => ?_) ?_
      rotate_left
      · (try dsimp only at hSw)
        go_simp
        try with_reducible rfl
      try simp only [Act.put, List.setIfInBounds_toArray, List.set_cons_zero, List.set_cons_succ]
      refine wpAnyH_ready (rs := [32]) (by kernel_rfl) (by simp) ?_
      refine held_cons (i := 32) rfl (by rfl) (fun K hK => ?_) AllReadyH.nil
      go_simp
      refine (counts_Get w8 g false ma2 E2 q ct8 (by omega)).mono ?_
      rintro e w' ⟨rfl, rfl⟩
      refine hK.out _ _ hHeld (fun hHeld => ?_)
      clear hK K
      try simp only [Act.put, List.setIfInBounds_toArray, List.set_cons_zero, List.set_cons_succ]
      refine wpAnyH_ready (rs := [39]) (by kernel_rfl) (by simp) ?_
      refine held_cons (i := 39) rfl (by rfl) (fun K hK => ?_) AllReadyH.nil
      go_simp
      refine ref26_Get w8 x _ A3 c3 (toC E2) q hr8 hm ?_
      refine hK.out _ _ hHeld (fun hHeld => ?_)
      clear hK K
      try simp only [Act.put, List.setIfInBounds_toArray, List.set_cons_zero, List.set_cons_succ]
      generalize getC q (toC E2) = gq at *
      refine held_take (i := 40) (v := ?_) rfl (by kernel_rfl) (by kernel_rfl) (by kernel_rfl) (fun _ _ _ h => h) (by rfl) (by assumption) (fun w hSw => ?_) ?_
      rotate_left
      · (try dsimp only at hSw)
        go_simp
        try with_reducible rfl
      try simp only [Act.put, List.setIfInBounds_toArray, List.set_cons_zero, List.set_cons_succ]
      refine held_take (i := 41) (v := ?_) rfl (by kernel_rfl) (by kernel_rfl) (by kernel_rfl) (fun _ _ _ h => h) (by rfl) (by assumption) (fun w hSw => ?_) ?_
      rotate_left
      · (try dsimp only at hSw)
        go_simp
        try with_reducible rfl
      try simp only [Act.put, List.setIfInBounds_toArray, List.set_cons_zero, List.set_cons_succ]
      refine held_take (i := 42) (v := ?_) rfl (by kernel_rfl) (by kernel_rfl) (by kernel_rfl) (fun _ _ _ h => h) (by rfl) (by assumption) (fun w hSw => ?_) ?_
      rotate_left
      · (try dsimp only at hSw)
        go_simp
        try with_reducible rfl
      try simp only [Act.put, List.setIfInBounds_toArray, List.set_cons_zero, List.set_cons_succ]
      refine held_take (i := 43) (v := ?_) rfl (by kernel_rfl) (by kernel_rfl) (by kernel_rfl) (fun _ _ _ h => h) (by rfl) (by assumption) (fun w hSw => ?_) ?_
      rotate_left
      · (try dsimp only at hSw)
        go_simp
        try with_reducible rfl
      try simp only [Act.put, List.setIfInBounds_toArray, List.set_cons_zero, List.set_cons_succ]
      refine held_take (i := 45) (v := ?_) rfl (by kernel_rfl) (by kernel_rfl) (by kernel_rfl) (fun _ _ _ h => h) (by rfl) (by assumption) (fun w hSw => ?_) ?_
      rotate_left
      · (try dsimp only at hSw)
        go_simp
        try with_reducible rfl
      try simp only [Act.put, List.setIfInBounds_toArray, List.set_cons_zero, List.set_cons_succ]
      refine held_take (i := 46) (v := ?_) rfl (by kernel_rfl) (by kernel_rfl) (by kernel_rfl) (fun _ _ _ h => h) (by rfl) (by assumption) (fun w hSw => ?_) ?_
      rotate_left
      · (try dsimp only at hSw)
        go_simp
        try with_reducible rfl
      try simp only [Act.put, List.setIfInBounds_toArray, List.set_cons_zero, List.set_cons_succ]
      refine held_take (i := 47) (v := ?_) rfl (by kernel_rfl) (by kernel_rfl) (by kernel_rfl) (fun _ _ _ h => h) (by rfl) (by assumption) (fun w hSw => ?_) ?_
      rotate_left
      · (try dsimp only at hSw)
        go_simp
        try with_reducible rfl
      try simp only [Act.put, List.setIfInBounds_toArray, List.set_cons_zero, List.set_cons_succ]
      refine wpAnyH_ready (rs := [44, 48]) (by kernel_rfl) (by simp) ?_
      refine held_cons (i := 44) rfl (by rfl) (fun K hK => ?_) ?_
      · go_simp
        refine (counts_Len w8 g false ma2 E2 ct8).mono ?_
        rintro e w' ⟨rfl, rfl⟩
        refine hK.out _ _ hHeld (fun hHeld => ?_)
        clear hK K
        try simp only [Act.put, List.setIfInBounds_toArray, List.set_cons_zero, List.set_cons_succ]
        refine wpAnyH_ready (rs := [48]) (by kernel_rfl) (by simp) ?_
        refine held_cons (i := 48) rfl (by rfl) (fun K hK => ?_) AllReadyH.nil
        go_simp
        refine hK.out _ _ hHeld (fun hHeld => ?_)
        clear hK K
        try simp only [Act.put, List.setIfInBounds_toArray, List.set_cons_zero, List.set_cons_succ]
        refine held_take (i := 49) (v := ?_) rfl (by kernel_rfl) (by kernel_rfl) (by kernel_rfl) (fun _ _ _ h => h) (by rfl) (by assumption) (fun w hSw => ?_) ?_
        rotate_left
        · (try dsimp only at hSw)
          go_simp
          try with_reducible rfl
        try simp only [Act.put, List.setIfInBounds_toArray, List.set_cons_zero, List.set_cons_succ]
        refine held_take (i := 50) (v := ?_) rfl (by kernel_rfl) (by kernel_rfl) (by kernel_rfl) (fun _ _ _ h => h) (by rfl) (by assumption) (fun w hSw => ?_) ?_
        rotate_left
        · (try dsimp only at hSw)
          go_simp
          try with_reducible rfl
        try simp only [Act.put, List.setIfInBounds_toArray, List.set_cons_zero, List.set_cons_succ]
        refine held_take (i := 51) (v := ?_) rfl (by kernel_rfl) (by kernel_rfl) (by kernel_rfl) (fun _ _ _ h => h) (by rfl) (by assumption) (fun w hSw => ?_) ?_
        rotate_left
        · (try dsimp only at hSw)
          go_simp
          try with_reducible rfl
        try simp only [Act.put, List.setIfInBounds_toArray, List.set_cons_zero, List.set_cons_succ]
        refine wpAnyH_done (by kernel_rfl) ?_ _
        go_wp2_with fail
        go_roundw
        case rel => exact ⟨j + 1, by go_num, by omega, _, _, _, _, HB.out⟩
        case measure => simp [RowKit.intOf]; omega
      · refine held_cons (i := 48) rfl (by rfl) (fun K hK => ?_) AllReadyH.nil
        go_simp
        refine hK.out _ _ hHeld (fun hHeld => ?_)
        clear hK K
        try simp only [Act.put, List.setIfInBounds_toArray, List.set_cons_zero, List.set_cons_succ]
        refine held_take (i := 49) (v := ?_) rfl (by kernel_rfl) (by kernel_rfl) (by kernel_rfl) (fun _ _ _ h => h) (by rfl) (by assumption) (fun w hSw => ?_) ?_
        rotate_left
        · (try dsimp only at hSw)
          go_simp
          try with_reducible rfl
        try simp only [Act.put, List.setIfInBounds_toArray, List.set_cons_zero, List.set_cons_succ]
        refine wpAnyH_ready (rs := [44]) (by kernel_rfl) (by simp) ?_
        refine held_cons (i := 44) rfl (by rfl) (fun K hK => ?_) AllReadyH.nil
        go_simp
        refine (counts_Len w8 g false ma2 E2 ct8).mono ?_
        rintro e w' ⟨rfl, rfl⟩
        refine hK.out _ _ hHeld (fun hHeld => ?_)
        clear hK K
        try simp only [Act.put, List.setIfInBounds_toArray, List.set_cons_zero, List.set_cons_succ]
        refine held_take (i := 50) (v := ?_) rfl (by kernel_rfl) (by kernel_rfl) (by kernel_rfl) (fun _ _ _ h => h) (by rfl) (by assumption) (fun w hSw => ?_) ?_
        rotate_left
        · (try dsimp only at hSw)
          go_simp
          try with_reducible rfl
        try simp only [Act.put, List.setIfInBounds_toArray, List.set_cons_zero, List.set_cons_succ]
        refine held_take (i := 51) (v := ?_) rfl (by kernel_rfl) (by kernel_rfl) (by kernel_rfl) (fun _ _ _ h => h) (by rfl) (by assumption) (fun w hSw => ?_) ?_
        rotate_left
        · (try dsimp only at hSw)
          go_simp
          try with_reducible rfl
        try simp only [Act.put, List.setIfInBounds_toArray, List.set_cons_zero, List.set_cons_succ]
        refine wpAnyH_done (by kernel_rfl) ?_ _
        go_wp2_with fail
        go_roundw
        case rel => exact ⟨j + 1, by go_num, by omega, _, _, _, _, HB.out⟩
        case measure => simp [RowKit.intOf]; omega
    · have hje : j = l.length := by omega
      have hj1 : ¬ (j : Int) < (l.length : Int) := by omega
      have hjd : decide ((j : Int) < (l.length : Int)) = false := decide_eq_false hj1
      have hlE : (toC E).length = E.length := List.length_map _
      have hm := hb.len
      have hke2 : (kr.toList == kr.toList) = true := by simp
      go_wp2_with fail
      refine (counts_Get wr g false ma E s hb.ct (by omega)).mono ?_
      rintro e w' ⟨rfl, rfl⟩
      go_wp2_with fail
      refine ref26_Get wr x _ A2 c2 (toC E) s hb.rc (by omega) ?_
      generalize getC s (toC E) = gq at *
      go_wp2_with fail
      refine counts_Rows wr g false ma E hb.ct (by omega) hb.rng (fun w' hb' => HP.out w' (hb.bel.trans (hb'.mono hb.bel.size))) ?_
      intro A4 c4 w4 hown4 hb4
      replace hb := hb.fresh hb4
      have hr4 := Row.of_own hown4
      clear hown4 hb4
      go_wp2_with fail
      refine ref26_Rows w4 x _ A2 c2 (toC E) hb.rc (by omega) hb.rng hb.small ?_
      intro A5 c5 w5 hown5 hb5
      replace hb := hb.fresh hb5
      have hr5 := Row.of_own hown5
      replace hr4 := hr4.below hb5 (Nat.le_refl _)
      clear hown5 hb5
      go_wp2_with fail
      refine refC_Texts (rowsC (toC E)) (rowsC (toC E)) A4 A5 c4 c5 w5 hr4 hr5 (by unfold rowsC toC; simp; omega) ?_
      rw [decide_eq_true rfl]
      intro w6 hb6
      replace hb := hb.fresh hb6
      clear hr4 hr5 hb6
      go_wp2_with fail
      refine counts_Kind w6 g false ma E k hb.ct hk ?_
      rw [hkr]
      intro w7 hc7 hx7
      have hfin := below_self hb.bel (Nat.le_refl _) hx7 (hb.fc g (.inl rfl))
      clear hc7 hx7 hb
      go_wp2_with fail
      refine (ref26_Kind w7 k hk).mono ?_
      rw [hkr]
      rintro e w' ⟨rfl, rfl⟩
      go_wp2_with fail
      first | exact ⟨rfl, hfin⟩ | (go_ret; exact ⟨rfl, hfin⟩)
end
end Go.Proofs.YtjknchhclneneaaDoor
