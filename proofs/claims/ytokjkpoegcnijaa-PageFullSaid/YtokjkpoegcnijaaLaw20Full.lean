/- PageFull's walk. -/
import Derived.Deep.RegionWith
import Derived.Deep.DrawnRows
import Derived.Deep.DeepCutAuto
import Derived.Test.YtokjkpoegcnijaaFullMath
import Derived.Test.YtokjkpoegcnijaaLaw20
import Derived.Test.YtokjkpoegcnijaaRef20Same
import Derived.Test.YtokjkpoegcnijaaHeld
import Derived.Deep.DeepAppendWide
namespace Go.Proofs.Ytokjkpoegcnijaa
open Go.RowKit Go.Lib
section
def FillW (W : World) (g L : Nat) (b : Int) (i : Value) (w : World) : Prop :=
  ∃ k : Nat, k ≤ L ∧ i = .int .i64 (k : Int) ∧ Blk w g 5 (fillA L k b) ∧ Below W.heap.size W w
def FullRel (W : World) (g x n : Nat) (b : Int) (i : Value) (w : World) : Prop :=
  ∃ (k : Nat) (v : Value), k ≤ n ∧ i = .int .i64 (k : Int) ∧ Blk w g 5 (fillA 32 32 b) ∧ Blk w x 27 #[.string ⟨#[]⟩, .bool false, v, .slice none 0 0] ∧ Own w W.heap.size 29 2 slC v (slN k (fillB 32 b)) ∧ Below W.heap.size W w

theorem page_EncodeL (g : PgV) {n1 n2 : Nat} (hn1 : g.sl.length = n1) (hn2 : g.it.length = n2) (A1 A2 : Option Addr) (c1 c2 : Nat) (w : World)
    (hr1 : Row w A1 (flat slC g.sl)) (hr2 : Row w A2 (flat itC g.it)) (hl1 : n1 ≤ 140737488351232) (hl2 : n2 ≤ 140737488351232) (hsb : ∀ j, j < g.sl.length → 0 ≤ (g.sl.getD j (0, emp)).1 ∧ (g.sl.getD j (0, emp)).1 < 256) {R : Ending → World → Prop}
    (hR : ∀ w', Below w.heap.size w w' → R (.returned (.tuple #[.string (pageEnc g).1, .int .i64 (pageEnc g).2])) w') :
    Calls Try.prog 13 #[.agg #[.string g.pre, .bool g.leaf, .slice A1 n1 c1, .slice A2 n2 c2]] w R := by
  subst hn1 hn2
  exact page_Encode g A1 A2 c1 c2 w hr1 hr2 hl1 hl2 hsb hR
theorem ref20_SameL (g q : PgV) {n1 n2 m1 m2 : Nat} (hn1 : g.sl.length = n1) (hn2 : g.it.length = n2) (hm1 : q.sl.length = m1) (hm2 : q.it.length = m2) (A1 A2 B1 B2 : Option Addr) (c1 c2 d1 d2 : Nat) (w : World) (h1 : Row w A1 (flat slC g.sl)) (h2 : Row w A2 (flat itC g.it)) (k1 : Row w B1 (flat slC q.sl)) (k2 : Row w B2 (flat itC q.it))
    (hl1 : n1 ≤ 140737488351232) (hl2 : n2 ≤ 140737488351232) {R : Ending → World → Prop}
    (hR : ∀ w', Below w.heap.size w w' → R (.returned (.bool (sameR g q))) w') :
    Calls Try.prog 15 #[.agg #[.string g.pre, .bool g.leaf, .slice A1 n1 c1, .slice A2 n2 c2], .agg #[.string q.pre, .bool q.leaf, .slice B1 m1 d1, .slice B2 m2 d2]] w R := by
  subst hn1 hn2 hm1 hm2
  exact ref20_Same g q A1 A2 B1 B2 c1 c2 d1 d2 w h1 h2 k1 k2 hl1 hl2 hR



set_option maxHeartbeats 4000000 in
set_option maxRecDepth 100000 in
theorem law20_full (b less : Int) (w : World) (hl0 : 0 ≤ less) (hl1 : less < 256) :
    Calls Try.prog 3 #[.int .u8 b, .int .u8 less] w fun e w' => e = .returned (.bool true) ∧ Below w.heap.size w w' := by
  obtain ⟨n, hn⟩ : ∃ n : Nat, 256 - less = (n : Int) := ⟨(256 - less).toNat, by omega⟩
  have hnr : 0 < n ∧ n ≤ 256 := by omega
  have hmk := run_make_row' (P := Try.prog) 23 5 (.int .u8 0) 1 Try.underlying23 (by kernel_rfl) rfl .i64 .i64 32 (by decide) (by decide)
  rw [show ((32 : Nat) : Int) = 32 from rfl] at hmk
  have hfz := fillB_size 32 b
  obtain ⟨i0, hi0, hz0, hz1, hz2⟩ := info_parts info_sl
  go_enter Try.func3, Try.ntmps3
  go_wp2_with fail
  refine law20_awake w ?_
  intro w0 hb00
  go_upto_region 4 with fail
  have hB0 : Blk (w0.alloc (.cells (madeCells #[.int .u8 0] 32) 5)) w0.heap.size 5 (fillA 32 0 b) := by rw [fillA_zero 32 b]; exact Blk.new _ _ _
  have hbA := hb00.alloc hb00.size (.cells (madeCells #[.int .u8 0] 32) 5)
  have hgw : w.heap.size ≤ w0.heap.size := hb00.size
  generalize (w0.alloc (.cells (madeCells #[.int .u8 0] 32) 5)) = w1 at *
  generalize w0.heap.size = g at *
  clear hb00 hmk
  go_wp2_with fail
  go_loopw [6] (FillW w g 32 b) (fun i _ => 32 - (RowKit.intOf i).toNat)
  case atStart => exact ⟨0, Nat.zero_le _, rfl, hB0, hbA⟩
  case round =>
    obtain ⟨k, hk, rfl, hB, hbw⟩ := hrel
    clear hB0 hbA
    by_cases hlt : k < 32
    · have c0 : wr.cell? ⟨g, k, none⟩ = some (.int .u8 0) := (hB.cell k).trans ((fillA_get 32 k b k hlt).trans (by rw [if_neg (Nat.lt_irrefl k)]))
      have f0 := Blk.frozen hB k
      have hki : (k : Int) < 32 := by omega
      have hk0 : (0 : Int) ≤ (k : Int) := by omega
      have hkd : decide ((k : Int) < 32) = true := decide_eq_true hki
      have hS : Blk (wr.setCell ⟨g, k, none⟩ (.int .u8 b)) g 5 (fillA 32 (k + 1) b) := fillA_set 32 k b ▸ Blk.set hB k _
      have hbS := below_self hbw (Nat.le_refl _) (Ext.self wr g k (.int .u8 b)) hgw
      go_wp2
      go_roundw
      case rel => exact ⟨k + 1, by omega, by first | rfl | go_num, hS, hbS⟩
      case measure => simp [RowKit.intOf]; omega
    · have hki : ¬ (k : Int) < 32 := by omega
      have hkd : decide ((k : Int) < 32) = false := decide_eq_false hki
      have hk32 : k = 32 := by omega
      rw [hk32] at hB
      clear hlt hk32 hk
      go_upto_region 9 with fail
      have hX := Blk.new wr 27 #[.string ⟨#[]⟩, .bool false, .slice none 0 0, .slice none 0 0]
      have hB := hB.alloc (.cells #[.string ⟨#[]⟩, .bool false, .slice none 0 0, .slice none 0 0] 27)
      have hbw := hbw.alloc hbw.size (.cells #[.string ⟨#[]⟩, .bool false, .slice none 0 0, .slice none 0 0] 27)
      have hxw : w.heap.size ≤ wr.heap.size := by have := hB.lt; simp at this; omega
      generalize (wr.alloc (.cells #[.string ⟨#[]⟩, .bool false, .slice none 0 0, .slice none 0 0] 27)) = w2 at *
      generalize wr.heap.size = x at *
      clear hki hkd
      go_wp2_with fail
      have hw1 : wrap64 less = less := by unfold wrap64; omega
      have hw2 : wrap64 (256 - less) = (n : Int) := by rw [hn]; unfold wrap64; omega
      have HN := Lib.hid hn
      clear hn
      go_loopw [8] (FullRel w g x n b) (fun i _ => n - (RowKit.intOf i).toNat)
      case atStart => exact ⟨0, .slice none 0 0, Nat.zero_le _, rfl, hB, hX, Own.nil _ _ _ _, hbw⟩
      case round =>
        obtain ⟨m, v, hm, rfl, hB2, hX2, hown, hbw2⟩ := hrel
        have hm0 : (0 : Int) ≤ (m : Int) := Int.natCast_nonneg _
        obtain ⟨A, c, hv, hrow⟩ := hown.slice
        rw [slN_len] at hv
        subst hv
        have hsl := slN_len m (fillB 32 b)
        clear hB hX hbw
        have q2 := hX2.cell 2
        have f2 := hX2.frozen 2
        dsimp at q2
        have hW2 := hbw2.size
        by_cases hlt : m < n
        · have hmi : (m : Int) < (n : Int) := by omega
          have hmd : decide ((m : Int) < (n : Int)) = true := decide_eq_true hmi
          have hmi2 : (m : Int) < 256 - less := by have := HN.out; omega
          have hmd2 : decide ((m : Int) < 256 - less) = true := decide_eq_true hmi2
          have hw3 : IntKind.u8.wrap (m : Int) = (m : Int) := by rw [IntKind.wrap_u8]; omega
          have hw4 : (m : Int) % 256 = (m : Int) := by omega
          have hcv := fill_conv (P := Try.prog) hB2 23 9 5 Try.underlying23 Try.underlying5 Try.underlying9 32
          go_wp2_with (first
            | (at_builtin; refine wpList_append_one rfl _ _ _ (by rfl) w.heap.size 29 i0 _ 2 24 Try.underlying24 hi0 hz0 hz1 hz2 rfl (by decide) slC (.slice A m c) (slN m (fillB 32 b)) (by rfl) (hown.alloc _) ((m : Int), fillB 32 b) ⟨wr.heap.size, 0, none⟩ 1 (by rfl) rfl ((Blk.new _ _ _).news rfl) (slC_one _) (by rw [hsl]; unfold maxLen; omega) (by rw [hsl]; omega) (Nat.le_trans hW2 (by simp)) ?_
               intro g9 c9 w9 hown9 hx9 hst9
               have hX9 := (hX2.alloc (.cells #[.int .u8 (m : Int), .string (fillB 32 b)] 29)).ext hx9 (Own.ne (hown.alloc (.cells #[.int .u8 (m : Int), .string (fillB 32 b)] 29)) (hX2.alloc (.cells #[.int .u8 (m : Int), .string (fillB 32 b)] 29)) (by decide))
               have q9 := hX9.cell 2
               have f9 := hX9.frozen 2
               dsimp at q9))
          have hn9 := Own.ne hown9 hX9 (by decide)
          have hx89 : Ext (fun b => (Value.slice A m c).ownBlock = some b) wr w9 := Ext.trans (S := fun b => (Value.slice A m c).ownBlock = some b) ((Ext.refl _ _).alloc _) hx9 (fun _ _ e => e)
          have hB9 := hB2.ext hx89 (Own.ne hown hB2 (by decide))
          have hse := Ext.self w9 x 2 (.slice (some ⟨g9, 0, none⟩) (m + 1) c9)
          have hgx : g ≠ x := hB2.ne hX2 (by decide)
          have hlo := hown.lt
          have hb9 := below_ext hbw2 (Nat.le_refl _) hx89 (fun b e => (hlo b e).1)
          rw [hsl] at hown9 hn9
          rw [← slN_succ] at hown9
          go_roundw
          case rel => exact ⟨m + 1, .slice (some ⟨g9, 0, none⟩) (m + 1) c9, by omega, by go_num, hB9.ext hse hgx, Blk.set hX9 2 _, hown9.ext hse (fun b hb e => hn9 (by rw [hb, e])), below_ext hb9 (Nat.le_refl _) hse (fun b e => e ▸ hxw)⟩
          case measure => simp [RowKit.intOf]; omega
        · have hmn : m = n := by omega
          subst hmn
          have hmi : ¬ (m : Int) < (m : Int) := by omega
          have hmi2 : ¬ (m : Int) < 256 - less := by have := HN.out; omega
          have hmd2 : decide ((m : Int) < 256 - less) = false := decide_eq_false hmi2
          clear hlt f2 hm
          obtain ⟨h0, h1⟩ := hnr
          have hX2' := hX2
          have q0 := hX2.cell 0
          have q1 := hX2.cell 1
          have q3 := hX2.cell 3
          dsimp at q0 q1 q3
          go_wp2_with fail
          refine page_EncodeL (fullP m (fillB 32 b)) (n2 := 0) (slN_len _ _) rfl A none c 0 wr hrow (Row.nil _ _) (by omega) (by decide) (fullP_range h1) ?_
          rw [fullP_enc h0 h1 hfz]
          have hSz := fullP_size h0 h1 hfz
          have hSd := fullP_dec h0 h1 hfz
          generalize pageBytes (fullP m (fillB 32 b)) = S at *
          dsimp only
          intro w3 hb3
          have hX3 := hX2.below hb3 hX2.lt
          have hrow3 := hrow.below hb3 (Nat.le_refl _)
          have hown3 := hown.below hb3
          have hb3 := hbw2.trans (hb3.mono hW2)
          have hm256 : (m : Int) ≤ 256 := by omega
          have HSD := Lib.hid hSd
          clear hSd hX2 hX2' hrow hown hbw2 q0 q1 q2 q3 hmi hmi2 hmd2 hB2
          have q0 := hX3.cell 0
          have q1 := hX3.cell 1
          have q2 := hX3.cell 2
          have q3 := hX3.cell 3
          dsimp at q0 q1 q2 q3
          have hmul : wrap64 (33 * (m : Int)) = 33 * (m : Int) := by unfold wrap64; omega
          have hadd : wrap64 (3 + 33 * (m : Int)) = 3 + 33 * (m : Int) := by unfold wrap64; omega
          have hadd1 : wrap64 (3 + 33 * (m : Int) + 1) = 3 + 33 * (m : Int) + 1 := by unfold wrap64; omega
          by_cases hbg : 127 < m
          · have hbi : (127 : Int) < (m : Int) := by omega
            have hbd : decide ((127 : Int) < (m : Int)) = true := decide_eq_true hbi
            rw [if_pos hbg] at hSz
            have hne : ((S.size : Int) != 3 + 33 * (m : Int) + 1) = false := by
              have : (S.size : Int) = 3 + 33 * (m : Int) + 1 := by omega
              simpa using this
            go_wp2_with fail
            refine page_Decode S w3 (by omega) ?_
            rw [HSD.out]
            intro A5 B5 c5 d5 w5 hr5 hs5 _ _ hb5
            have hX5 := hX3.below hb5 hX3.lt
            have hrow5 := hrow3.below hb5 (Nat.le_refl _)
            have hown5 := hown3.below hb5
            have hb5 := hb3.trans (hb5.mono hb3.size)
            clear hX3 hrow3 hown3 hb3 q0 q1 q2 q3 hne HSD hSz hmul hadd hadd1
            unfold pgA
            rw [show (fullP m (fillB 32 b)).sl.length = m from slN_len _ _, show (fullP m (fillB 32 b)).it.length = 0 from rfl, show (fullP m (fillB 32 b)).pre = ⟨#[]⟩ from rfl, show (fullP m (fillB 32 b)).leaf = false from rfl]
            go_upto_region 21 with fail
            have hY := Blk.new w5 27 #[.string ⟨#[]⟩, .bool false, .slice A5 m c5, .slice B5 0 d5]
            have hX6 := hX5.alloc (.cells #[.string ⟨#[]⟩, .bool false, .slice A5 m c5, .slice B5 0 d5] 27)
            have hrow6 := hrow5.alloc (.cells #[.string ⟨#[]⟩, .bool false, .slice A5 m c5, .slice B5 0 d5] 27)
            have hown6 := hown5.alloc (.cells #[.string ⟨#[]⟩, .bool false, .slice A5 m c5, .slice B5 0 d5] 27)
            have hr6 := hr5.alloc (.cells #[.string ⟨#[]⟩, .bool false, .slice A5 m c5, .slice B5 0 d5] 27)
            have hs6 := hs5.alloc (.cells #[.string ⟨#[]⟩, .bool false, .slice A5 m c5, .slice B5 0 d5] 27)
            have hb6 := hb5.alloc hb5.size (.cells #[.string ⟨#[]⟩, .bool false, .slice A5 m c5, .slice B5 0 d5] 27)
            generalize (w5.alloc (.cells #[.string ⟨#[]⟩, .bool false, .slice A5 m c5, .slice B5 0 d5] 27)) = w6 at *
            generalize w5.heap.size = y at *
            clear hX5 hrow5 hown5 hr5 hs5 hb5
            have q0 := hX6.cell 0
            have q1 := hX6.cell 1
            have q2 := hX6.cell 2
            have q3 := hX6.cell 3
            have y0 := hY.cell 0
            have y1 := hY.cell 1
            have y2 := hY.cell 2
            have y3 := hY.cell 3
            dsimp at q0 q1 q2 q3 y0 y1 y2 y3
            go_wp2_with fail
            refine ref20_SameL (fullP m (fillB 32 b)) (fullP m (fillB 32 b)) (n2 := 0) (m2 := 0) (slN_len _ _) rfl (slN_len _ _) rfl A none A5 B5 c 0 c5 d5 w6 hrow6 (Row.nil _ _) hr6 hs6 (by omega) (by decide) ?_
            rw [sameR_self]
            intro w7 hb7
            have hX7 := hX6.below hb7 hX6.lt
            have hrow7 := hrow6.below hb7 (Nat.le_refl _)
            have hown7 := hown6.below hb7
            have hb7 := hb6.trans (hb7.mono hb6.size)
            clear hX6 hrow6 hown6 hr6 hs6 hb6 q0 q1 q2 q3 y0 y1 y2 y3 hY
            have q0 := hX7.cell 0
            have q1 := hX7.cell 1
            have q2 := hX7.cell 2
            have q3 := hX7.cell 3
            have f2 := hX7.frozen 2
            dsimp at q0 q1 q2 q3
            go_wp2_with fail
            obtain ⟨pb, po, rfl, _, e0, e1⟩ := hrow7.sl 0 (by rw [slN_len]; omega)
            rw [slN_get m _ 0 h0] at e0 e1
            rw [Nat.zero_mul, Nat.add_zero] at e0 e1
            dsimp only at e0 e1
            have hmp : (0 : Int) < (m : Int) := by omega
            have hW7 := hb7.size
            refine wp_region_held_drew (S := fun _ => True) (by kernel_rfl) trivial (fun hHeld => ?_)
            refine held_take (i := 0) (v := ?_) rfl (by kernel_rfl) (by kernel_rfl) (by kernel_rfl) (fun _ _ _ h => h) (by rfl) (by assumption) (fun w hSw => ?_) ?_
            rotate_left
            · (try dsimp only at hSw)
              go_simp
              try with_reducible rfl
            try simp only [Act.put, List.setIfInBounds_toArray, List.set_cons_zero, List.set_cons_succ]
            refine held_take (i := 2) (v := ?_) rfl (by kernel_rfl) (by kernel_rfl) (by kernel_rfl) (fun _ _ _ h => h) (by rfl) (by assumption) (fun w hSw => ?_) ?_
            rotate_left
            · (try dsimp only at hSw)
              go_simp
              try with_reducible rfl
            try simp only [Act.put, List.setIfInBounds_toArray, List.set_cons_zero, List.set_cons_succ]
            have qA : ∀ o, (w7.alloc o).cell? ⟨x, 2, none⟩ = some (.slice (some ⟨pb, po, none⟩) m c) := fun o => (World.cell?_alloc_some w7 _ o (by rw [q2]; rfl)).trans q2
            have qB : ∀ o, (w7.alloc o).drew.cell? ⟨x, 2, none⟩ = some (.slice (some ⟨pb, po, none⟩) m c) := qA
            have qC : ∀ o, (w7.drew.alloc o).cell? ⟨x, 2, none⟩ = some (.slice (some ⟨pb, po, none⟩) m c) := qA
            refine wpAnyH_ready (rs := [1, 3]) (by kernel_rfl) (by simp) ?_
            refine held_cons (i := 1) rfl (by rfl) (fun K hK => ?_) ?_
            · go_simp
              refine hK.out _ _ trivial (fun hHeld => ?_)
              clear hK K
              try simp only [Act.put, List.setIfInBounds_toArray, List.set_cons_zero, List.set_cons_succ]
              refine wpAnyH_ready (rs := [3]) (by kernel_rfl) (by simp) ?_
              refine held_cons (i := 3) rfl (by rfl) (fun K hK => ?_) AllReadyH.nil
              go_simp
              refine hK.out _ _ trivial (fun hHeld => ?_)
              clear hK K
              try simp only [Act.put, List.setIfInBounds_toArray, List.set_cons_zero, List.set_cons_succ]
              refine held_take (i := 4) (v := ?_) rfl (by kernel_rfl) (by kernel_rfl) (by kernel_rfl) (fun _ _ _ h => h) (by rfl) (by assumption) (fun w hSw => ?_) ?_
              rotate_left
              · (try dsimp only at hSw)
                go_simp
                try with_reducible rfl
              try simp only [Act.put, List.setIfInBounds_toArray, List.set_cons_zero, List.set_cons_succ]
              refine wpAnyH_ready (rs := [5]) (by kernel_rfl) (by simp) ?_
              refine held_cons (i := 5) rfl (by rfl) (fun K hK => ?_) AllReadyH.nil
              go_simp
              refine hK.out _ _ trivial (fun hHeld => ?_)
              clear hK K
              try simp only [Act.put, List.setIfInBounds_toArray, List.set_cons_zero, List.set_cons_succ]
              refine wpAnyH_ready (rs := [6]) (by kernel_rfl) (by simp) ?_
              refine held_cons (i := 6) rfl (by rfl) (fun K hK => ?_) AllReadyH.nil
              go_simp
              refine hK.out _ _ trivial (fun hHeld => ?_)
              clear hK K
              try simp only [Act.put, List.setIfInBounds_toArray, List.set_cons_zero, List.set_cons_succ]
              refine wpAnyH_ready (rs := [7]) (by kernel_rfl) (by simp) ?_
              refine held_cons (i := 7) rfl (by rfl) (fun K hK => ?_) AllReadyH.nil
              have hownA : (w7.alloc (.cells #[.int .u8 0, .string (fillB 32 b)] 29)).ownsRow w.heap.size 29 2 (.slice (some ⟨pb, po, none⟩) m c) m (flat slC (slN m (fillB 32 b))) := by
                have := hown7.alloc (.cells #[.int .u8 0, .string (fillB 32 b)] 29)
                unfold Own at this
                rw [hsl] at this
                exact this
              refine wp_append_own_wide _ _ _ 24 rfl w.heap.size 29 i0 _ 2 24 Try.underlying24 hi0 hz0 hz1 hz2 rfl (by decide) (.slice (some ⟨pb, po, none⟩) m c) m (flat slC (slN m (fillB 32 b))) (by rfl) hownA ⟨w7.heap.size, 0, none⟩ 1 1 (slC ((0 : Int), fillB 32 b)) (by rfl) rfl (by exact (Blk.new w7 29 #[.int .u8 0, .string (fillB 32 b)]).news rfl) (slC_one _) (by unfold maxLen; omega) (by omega) (Nat.le_trans hW7 (by show _ ≤ (w7.alloc _).heap.size; simp)) ?_
              intro v9 w9 hown9 hg9 _
              obtain ⟨A9, c9, rfl⟩ := own_slice hown9
              have hX9 : Blk w9 x 27 #[.string ⟨#[]⟩, .bool false, .slice (some ⟨pb, po, none⟩) m c, .slice none 0 0] := Blk.ext (w := w7.alloc (.cells #[.int .u8 0, .string (fillB 32 b)] 29)) (hX7.alloc _) (Ext.of_grown hg9).undrew1 (Own.ne (hown7.alloc (.cells #[.int .u8 0, .string (fillB 32 b)] 29)) (hX7.alloc (.cells #[.int .u8 0, .string (fillB 32 b)] 29)) (by decide))
              have q9 := hX9.cell 2
              have f9 := hX9.frozen 2
              dsimp at q9
              have hlo := hown7.lt
              have hb9 : Below w.heap.size w w9 := below_ext (hb7.alloc hW7 (.cells #[.int .u8 0, .string (fillB 32 b)] 29)) (Nat.le_refl _) (Ext.of_grown hg9).undrew1 (fun b e => (hlo b e).1)
              have hn9 : (Value.slice A9 (m + 1) c9).ownBlock ≠ some x := fun e => by
                obtain ⟨cs, hcs⟩ := Own.blkT (f := slC) (l := slN m (fillB 32 b) ++ [((0 : Int), fillB 32 b)]) (by unfold Own; rw [flat_snoc, List.length_append, hsl]; exact hown9) e
                exact hcs.ne hX9 (by decide) rfl
              refine hK.out _ _ trivial (fun hHeld => ?_)
              clear hK K
              try simp only [Act.put, List.setIfInBounds_toArray, List.set_cons_zero, List.set_cons_succ]
              refine held_take (i := 8) (v := ?_) rfl (by kernel_rfl) (by kernel_rfl) (by kernel_rfl) (fun _ _ _ h => h) (by rfl) (by assumption) (fun w hSw => ?_) ?_
              rotate_left
              · (try dsimp only at hSw)
                go_simp
                try with_reducible rfl
              try simp only [Act.put, List.setIfInBounds_toArray, List.set_cons_zero, List.set_cons_succ]
              refine wpAnyH_ready (rs := [9]) (by kernel_rfl) (by simp) ?_
              refine held_cons (i := 9) rfl (by rfl) (fun K hK => ?_) AllReadyH.nil
              go_simp
              refine hK.out _ _ trivial (fun hHeld => ?_)
              clear hK K
              try simp only [Act.put, List.setIfInBounds_toArray, List.set_cons_zero, List.set_cons_succ]
              refine wpAnyH_done (by kernel_rfl) ?_ _
              have hse := Ext.self w9 x 2 (.slice A9 (m + 1) c9)
              have hX10 : Blk (w9.setCell ⟨x, 2, none⟩ (.slice A9 (m + 1) c9)) x 27 #[.string ⟨#[]⟩, .bool false, .slice A9 (m + 1) c9, .slice none 0 0] := hX9.set 2 (.slice A9 (m + 1) c9)
              have hb10 := below_ext hb9 (Nat.le_refl _) hse (fun b e => e ▸ hxw)
              have hrow10 : Row (w9.setCell ⟨x, 2, none⟩ (.slice A9 (m + 1) c9)) A9 (flat slC (slN m (fillB 32 b) ++ [((0 : Int), fillB 32 b)])) := by
                rw [flat_snoc]
                exact (Row.of_own hown9).ext hse (fun ad e hn hS => hn9 (by rw [e]; exact congrArg some hS))
              generalize w9.setCell ⟨x, 2, none⟩ (.slice A9 (m + 1) c9) = w10 at *
              clear q0 q1 q2 q3 q9 f9 f2 hse hX9 hb9 hown9 hg9 hX7 hrow7 hown7 hb7
              have q0 := hX10.cell 0
              have q1 := hX10.cell 1
              have q2 := hX10.cell 2
              have q3 := hX10.cell 3
              dsimp at q0 q1 q2 q3
              go_wp2_with fail
              refine page_EncodeL (moreP m (fillB 32 b)) (n1 := m + 1) (n2 := 0) (by show (slN m _ ++ [_]).length = m + 1; rw [List.length_append, hsl]; rfl) rfl A9 none c9 0 w10 hrow10 (Row.nil _ _) (by omega) (by decide) (moreP_range h1) ?_
              have hme := moreP_enc h0 h1 hfz
              generalize pageEnc (moreP m (fillB 32 b)) = pe at *
              obtain ⟨pt, pr⟩ := pe
              dsimp only at hme ⊢
              intro w11 hb11
              have hb11 := hb10.trans (hb11.mono hb10.size)
              by_cases h256 : m = 256
              · rw [if_pos h256] at hme
                have hv1 : ((m : Int) == 256) = true := by simp [h256]
                subst hme
                go_wp2_with fail
                go_ret
                exact ⟨rfl, hb11⟩
              · rw [if_neg h256] at hme
                have hv1 : ((m : Int) == 256) = false := by
                  have : ¬ (m : Int) = 256 := by omega
                  simpa using this
                have hv2 : (m : Int) < 256 := by omega
                have hv3 : decide ((m : Int) < 256) = true := decide_eq_true hv2
                subst hme
                go_wp2_with fail
                go_ret
                exact ⟨rfl, hb11⟩
            · refine held_cons (i := 3) rfl (by rfl) (fun K hK => ?_) AllReadyH.nil
              go_simp
              refine hK.out _ _ trivial (fun hHeld => ?_)
              clear hK K
              try simp only [Act.put, List.setIfInBounds_toArray, List.set_cons_zero, List.set_cons_succ]
              refine held_take (i := 4) (v := ?_) rfl (by kernel_rfl) (by kernel_rfl) (by kernel_rfl) (fun _ _ _ h => h) (by rfl) (by assumption) (fun w hSw => ?_) ?_
              rotate_left
              · (try dsimp only at hSw)
                go_simp
                try with_reducible rfl
              try simp only [Act.put, List.setIfInBounds_toArray, List.set_cons_zero, List.set_cons_succ]
              refine wpAnyH_ready (rs := [1, 5]) (by kernel_rfl) (by simp) ?_
              refine held_cons (i := 1) rfl (by rfl) (fun K hK => ?_) ?_
              · go_simp
                refine hK.out _ _ trivial (fun hHeld => ?_)
                clear hK K
                try simp only [Act.put, List.setIfInBounds_toArray, List.set_cons_zero, List.set_cons_succ]
                refine wpAnyH_ready (rs := [5]) (by kernel_rfl) (by simp) ?_
                refine held_cons (i := 5) rfl (by rfl) (fun K hK => ?_) AllReadyH.nil
                go_simp
                refine hK.out _ _ trivial (fun hHeld => ?_)
                clear hK K
                try simp only [Act.put, List.setIfInBounds_toArray, List.set_cons_zero, List.set_cons_succ]
                refine wpAnyH_ready (rs := [6]) (by kernel_rfl) (by simp) ?_
                refine held_cons (i := 6) rfl (by rfl) (fun K hK => ?_) AllReadyH.nil
                go_simp
                refine hK.out _ _ trivial (fun hHeld => ?_)
                clear hK K
                try simp only [Act.put, List.setIfInBounds_toArray, List.set_cons_zero, List.set_cons_succ]
                refine wpAnyH_ready (rs := [7]) (by kernel_rfl) (by simp) ?_
                refine held_cons (i := 7) rfl (by rfl) (fun K hK => ?_) AllReadyH.nil
                have hownA : (w7.alloc (.cells #[.int .u8 0, .string (fillB 32 b)] 29)).ownsRow w.heap.size 29 2 (.slice (some ⟨pb, po, none⟩) m c) m (flat slC (slN m (fillB 32 b))) := by
                  have := hown7.alloc (.cells #[.int .u8 0, .string (fillB 32 b)] 29)
                  unfold Own at this
                  rw [hsl] at this
                  exact this
                refine wp_append_own_wide _ _ _ 24 rfl w.heap.size 29 i0 _ 2 24 Try.underlying24 hi0 hz0 hz1 hz2 rfl (by decide) (.slice (some ⟨pb, po, none⟩) m c) m (flat slC (slN m (fillB 32 b))) (by rfl) hownA ⟨w7.heap.size, 0, none⟩ 1 1 (slC ((0 : Int), fillB 32 b)) (by rfl) rfl (by exact (Blk.new w7 29 #[.int .u8 0, .string (fillB 32 b)]).news rfl) (slC_one _) (by unfold maxLen; omega) (by omega) (Nat.le_trans hW7 (by show _ ≤ (w7.alloc _).heap.size; simp)) ?_
                intro v9 w9 hown9 hg9 _
                obtain ⟨A9, c9, rfl⟩ := own_slice hown9
                have hX9 : Blk w9 x 27 #[.string ⟨#[]⟩, .bool false, .slice (some ⟨pb, po, none⟩) m c, .slice none 0 0] := Blk.ext (w := w7.alloc (.cells #[.int .u8 0, .string (fillB 32 b)] 29)) (hX7.alloc _) (Ext.of_grown hg9).undrew1 (Own.ne (hown7.alloc (.cells #[.int .u8 0, .string (fillB 32 b)] 29)) (hX7.alloc (.cells #[.int .u8 0, .string (fillB 32 b)] 29)) (by decide))
                have q9 := hX9.cell 2
                have f9 := hX9.frozen 2
                dsimp at q9
                have hlo := hown7.lt
                have hb9 : Below w.heap.size w w9 := below_ext (hb7.alloc hW7 (.cells #[.int .u8 0, .string (fillB 32 b)] 29)) (Nat.le_refl _) (Ext.of_grown hg9).undrew1 (fun b e => (hlo b e).1)
                have hn9 : (Value.slice A9 (m + 1) c9).ownBlock ≠ some x := fun e => by
                  obtain ⟨cs, hcs⟩ := Own.blkT (f := slC) (l := slN m (fillB 32 b) ++ [((0 : Int), fillB 32 b)]) (by unfold Own; rw [flat_snoc, List.length_append, hsl]; exact hown9) e
                  exact hcs.ne hX9 (by decide) rfl
                refine hK.out _ _ trivial (fun hHeld => ?_)
                clear hK K
                try simp only [Act.put, List.setIfInBounds_toArray, List.set_cons_zero, List.set_cons_succ]
                refine held_take (i := 8) (v := ?_) rfl (by kernel_rfl) (by kernel_rfl) (by kernel_rfl) (fun _ _ _ h => h) (by rfl) (by assumption) (fun w hSw => ?_) ?_
                rotate_left
                · (try dsimp only at hSw)
                  go_simp
                  try with_reducible rfl
                try simp only [Act.put, List.setIfInBounds_toArray, List.set_cons_zero, List.set_cons_succ]
                refine wpAnyH_ready (rs := [9]) (by kernel_rfl) (by simp) ?_
                refine held_cons (i := 9) rfl (by rfl) (fun K hK => ?_) AllReadyH.nil
                go_simp
                refine hK.out _ _ trivial (fun hHeld => ?_)
                clear hK K
                try simp only [Act.put, List.setIfInBounds_toArray, List.set_cons_zero, List.set_cons_succ]
                refine wpAnyH_done (by kernel_rfl) ?_ _
                have hse := Ext.self w9 x 2 (.slice A9 (m + 1) c9)
                have hX10 : Blk (w9.setCell ⟨x, 2, none⟩ (.slice A9 (m + 1) c9)) x 27 #[.string ⟨#[]⟩, .bool false, .slice A9 (m + 1) c9, .slice none 0 0] := hX9.set 2 (.slice A9 (m + 1) c9)
                have hb10 := below_ext hb9 (Nat.le_refl _) hse (fun b e => e ▸ hxw)
                have hrow10 : Row (w9.setCell ⟨x, 2, none⟩ (.slice A9 (m + 1) c9)) A9 (flat slC (slN m (fillB 32 b) ++ [((0 : Int), fillB 32 b)])) := by
                  rw [flat_snoc]
                  exact (Row.of_own hown9).ext hse (fun ad e hn hS => hn9 (by rw [e]; exact congrArg some hS))
                generalize w9.setCell ⟨x, 2, none⟩ (.slice A9 (m + 1) c9) = w10 at *
                clear q0 q1 q2 q3 q9 f9 f2 hse hX9 hb9 hown9 hg9 hX7 hrow7 hown7 hb7
                have q0 := hX10.cell 0
                have q1 := hX10.cell 1
                have q2 := hX10.cell 2
                have q3 := hX10.cell 3
                dsimp at q0 q1 q2 q3
                go_wp2_with fail
                refine page_EncodeL (moreP m (fillB 32 b)) (n1 := m + 1) (n2 := 0) (by show (slN m _ ++ [_]).length = m + 1; rw [List.length_append, hsl]; rfl) rfl A9 none c9 0 w10 hrow10 (Row.nil _ _) (by omega) (by decide) (moreP_range h1) ?_
                have hme := moreP_enc h0 h1 hfz
                generalize pageEnc (moreP m (fillB 32 b)) = pe at *
                obtain ⟨pt, pr⟩ := pe
                dsimp only at hme ⊢
                intro w11 hb11
                have hb11 := hb10.trans (hb11.mono hb10.size)
                by_cases h256 : m = 256
                · rw [if_pos h256] at hme
                  have hv1 : ((m : Int) == 256) = true := by simp [h256]
                  subst hme
                  go_wp2_with fail
                  go_ret
                  exact ⟨rfl, hb11⟩
                · rw [if_neg h256] at hme
                  have hv1 : ((m : Int) == 256) = false := by
                    have : ¬ (m : Int) = 256 := by omega
                    simpa using this
                  have hv2 : (m : Int) < 256 := by omega
                  have hv3 : decide ((m : Int) < 256) = true := decide_eq_true hv2
                  subst hme
                  go_wp2_with fail
                  go_ret
                  exact ⟨rfl, hb11⟩
              · refine held_cons (i := 5) rfl (by rfl) (fun K hK => ?_) AllReadyH.nil
                go_simp
                refine hK.out _ _ trivial (fun hHeld => ?_)
                clear hK K
                try simp only [Act.put, List.setIfInBounds_toArray, List.set_cons_zero, List.set_cons_succ]
                refine wpAnyH_ready (rs := [1, 6]) (by kernel_rfl) (by simp) ?_
                refine held_cons (i := 1) rfl (by rfl) (fun K hK => ?_) ?_
                · go_simp
                  refine hK.out _ _ trivial (fun hHeld => ?_)
                  clear hK K
                  try simp only [Act.put, List.setIfInBounds_toArray, List.set_cons_zero, List.set_cons_succ]
                  refine wpAnyH_ready (rs := [6]) (by kernel_rfl) (by simp) ?_
                  refine held_cons (i := 6) rfl (by rfl) (fun K hK => ?_) AllReadyH.nil
                  go_simp
                  refine hK.out _ _ trivial (fun hHeld => ?_)
                  clear hK K
                  try simp only [Act.put, List.setIfInBounds_toArray, List.set_cons_zero, List.set_cons_succ]
                  refine wpAnyH_ready (rs := [7]) (by kernel_rfl) (by simp) ?_
                  refine held_cons (i := 7) rfl (by rfl) (fun K hK => ?_) AllReadyH.nil
                  have hownA : (w7.alloc (.cells #[.int .u8 0, .string (fillB 32 b)] 29)).ownsRow w.heap.size 29 2 (.slice (some ⟨pb, po, none⟩) m c) m (flat slC (slN m (fillB 32 b))) := by
                    have := hown7.alloc (.cells #[.int .u8 0, .string (fillB 32 b)] 29)
                    unfold Own at this
                    rw [hsl] at this
                    exact this
                  refine wp_append_own_wide _ _ _ 24 rfl w.heap.size 29 i0 _ 2 24 Try.underlying24 hi0 hz0 hz1 hz2 rfl (by decide) (.slice (some ⟨pb, po, none⟩) m c) m (flat slC (slN m (fillB 32 b))) (by rfl) hownA ⟨w7.heap.size, 0, none⟩ 1 1 (slC ((0 : Int), fillB 32 b)) (by rfl) rfl (by exact (Blk.new w7 29 #[.int .u8 0, .string (fillB 32 b)]).news rfl) (slC_one _) (by unfold maxLen; omega) (by omega) (Nat.le_trans hW7 (by show _ ≤ (w7.alloc _).heap.size; simp)) ?_
                  intro v9 w9 hown9 hg9 _
                  obtain ⟨A9, c9, rfl⟩ := own_slice hown9
                  have hX9 : Blk w9 x 27 #[.string ⟨#[]⟩, .bool false, .slice (some ⟨pb, po, none⟩) m c, .slice none 0 0] := Blk.ext (w := w7.alloc (.cells #[.int .u8 0, .string (fillB 32 b)] 29)) (hX7.alloc _) (Ext.of_grown hg9).undrew1 (Own.ne (hown7.alloc (.cells #[.int .u8 0, .string (fillB 32 b)] 29)) (hX7.alloc (.cells #[.int .u8 0, .string (fillB 32 b)] 29)) (by decide))
                  have q9 := hX9.cell 2
                  have f9 := hX9.frozen 2
                  dsimp at q9
                  have hlo := hown7.lt
                  have hb9 : Below w.heap.size w w9 := below_ext (hb7.alloc hW7 (.cells #[.int .u8 0, .string (fillB 32 b)] 29)) (Nat.le_refl _) (Ext.of_grown hg9).undrew1 (fun b e => (hlo b e).1)
                  have hn9 : (Value.slice A9 (m + 1) c9).ownBlock ≠ some x := fun e => by
                    obtain ⟨cs, hcs⟩ := Own.blkT (f := slC) (l := slN m (fillB 32 b) ++ [((0 : Int), fillB 32 b)]) (by unfold Own; rw [flat_snoc, List.length_append, hsl]; exact hown9) e
                    exact hcs.ne hX9 (by decide) rfl
                  refine hK.out _ _ trivial (fun hHeld => ?_)
                  clear hK K
                  try simp only [Act.put, List.setIfInBounds_toArray, List.set_cons_zero, List.set_cons_succ]
                  refine held_take (i := 8) (v := ?_) rfl (by kernel_rfl) (by kernel_rfl) (by kernel_rfl) (fun _ _ _ h => h) (by rfl) (by assumption) (fun w hSw => ?_) ?_
                  rotate_left
                  · (try dsimp only at hSw)
                    go_simp
                    try with_reducible rfl
                  try simp only [Act.put, List.setIfInBounds_toArray, List.set_cons_zero, List.set_cons_succ]
                  refine wpAnyH_ready (rs := [9]) (by kernel_rfl) (by simp) ?_
                  refine held_cons (i := 9) rfl (by rfl) (fun K hK => ?_) AllReadyH.nil
                  go_simp
                  refine hK.out _ _ trivial (fun hHeld => ?_)
                  clear hK K
                  try simp only [Act.put, List.setIfInBounds_toArray, List.set_cons_zero, List.set_cons_succ]
                  refine wpAnyH_done (by kernel_rfl) ?_ _
                  have hse := Ext.self w9 x 2 (.slice A9 (m + 1) c9)
                  have hX10 : Blk (w9.setCell ⟨x, 2, none⟩ (.slice A9 (m + 1) c9)) x 27 #[.string ⟨#[]⟩, .bool false, .slice A9 (m + 1) c9, .slice none 0 0] := hX9.set 2 (.slice A9 (m + 1) c9)
                  have hb10 := below_ext hb9 (Nat.le_refl _) hse (fun b e => e ▸ hxw)
                  have hrow10 : Row (w9.setCell ⟨x, 2, none⟩ (.slice A9 (m + 1) c9)) A9 (flat slC (slN m (fillB 32 b) ++ [((0 : Int), fillB 32 b)])) := by
                    rw [flat_snoc]
                    exact (Row.of_own hown9).ext hse (fun ad e hn hS => hn9 (by rw [e]; exact congrArg some hS))
                  generalize w9.setCell ⟨x, 2, none⟩ (.slice A9 (m + 1) c9) = w10 at *
                  clear q0 q1 q2 q3 q9 f9 f2 hse hX9 hb9 hown9 hg9 hX7 hrow7 hown7 hb7
                  have q0 := hX10.cell 0
                  have q1 := hX10.cell 1
                  have q2 := hX10.cell 2
                  have q3 := hX10.cell 3
                  dsimp at q0 q1 q2 q3
                  go_wp2_with fail
                  refine page_EncodeL (moreP m (fillB 32 b)) (n1 := m + 1) (n2 := 0) (by show (slN m _ ++ [_]).length = m + 1; rw [List.length_append, hsl]; rfl) rfl A9 none c9 0 w10 hrow10 (Row.nil _ _) (by omega) (by decide) (moreP_range h1) ?_
                  have hme := moreP_enc h0 h1 hfz
                  generalize pageEnc (moreP m (fillB 32 b)) = pe at *
                  obtain ⟨pt, pr⟩ := pe
                  dsimp only at hme ⊢
                  intro w11 hb11
                  have hb11 := hb10.trans (hb11.mono hb10.size)
                  by_cases h256 : m = 256
                  · rw [if_pos h256] at hme
                    have hv1 : ((m : Int) == 256) = true := by simp [h256]
                    subst hme
                    go_wp2_with fail
                    go_ret
                    exact ⟨rfl, hb11⟩
                  · rw [if_neg h256] at hme
                    have hv1 : ((m : Int) == 256) = false := by
                      have : ¬ (m : Int) = 256 := by omega
                      simpa using this
                    have hv2 : (m : Int) < 256 := by omega
                    have hv3 : decide ((m : Int) < 256) = true := decide_eq_true hv2
                    subst hme
                    go_wp2_with fail
                    go_ret
                    exact ⟨rfl, hb11⟩
                · refine held_cons (i := 6) rfl (by rfl) (fun K hK => ?_) AllReadyH.nil
                  go_simp
                  refine hK.out _ _ trivial (fun hHeld => ?_)
                  clear hK K
                  try simp only [Act.put, List.setIfInBounds_toArray, List.set_cons_zero, List.set_cons_succ]
                  refine wpAnyH_ready (rs := [1]) (by kernel_rfl) (by simp) ?_
                  refine held_cons (i := 1) rfl (by rfl) (fun K hK => ?_) AllReadyH.nil
                  go_simp
                  refine hK.out _ _ trivial (fun hHeld => ?_)
                  clear hK K
                  try simp only [Act.put, List.setIfInBounds_toArray, List.set_cons_zero, List.set_cons_succ]
                  refine wpAnyH_ready (rs := [7]) (by kernel_rfl) (by simp) ?_
                  refine held_cons (i := 7) rfl (by rfl) (fun K hK => ?_) AllReadyH.nil
                  have hownA : (w7.alloc (.cells #[.int .u8 0, .string (fillB 32 b)] 29)).ownsRow w.heap.size 29 2 (.slice (some ⟨pb, po, none⟩) m c) m (flat slC (slN m (fillB 32 b))) := by
                    have := hown7.alloc (.cells #[.int .u8 0, .string (fillB 32 b)] 29)
                    unfold Own at this
                    rw [hsl] at this
                    exact this
                  refine wp_append_own_wide _ _ _ 24 rfl w.heap.size 29 i0 _ 2 24 Try.underlying24 hi0 hz0 hz1 hz2 rfl (by decide) (.slice (some ⟨pb, po, none⟩) m c) m (flat slC (slN m (fillB 32 b))) (by rfl) hownA ⟨w7.heap.size, 0, none⟩ 1 1 (slC ((0 : Int), fillB 32 b)) (by rfl) rfl (by exact (Blk.new w7 29 #[.int .u8 0, .string (fillB 32 b)]).news rfl) (slC_one _) (by unfold maxLen; omega) (by omega) (Nat.le_trans hW7 (by show _ ≤ (w7.alloc _).heap.size; simp)) ?_
                  intro v9 w9 hown9 hg9 _
                  obtain ⟨A9, c9, rfl⟩ := own_slice hown9
                  have hX9 : Blk w9 x 27 #[.string ⟨#[]⟩, .bool false, .slice (some ⟨pb, po, none⟩) m c, .slice none 0 0] := Blk.ext (w := w7.alloc (.cells #[.int .u8 0, .string (fillB 32 b)] 29)) (hX7.alloc _) (Ext.of_grown hg9).undrew1 (Own.ne (hown7.alloc (.cells #[.int .u8 0, .string (fillB 32 b)] 29)) (hX7.alloc (.cells #[.int .u8 0, .string (fillB 32 b)] 29)) (by decide))
                  have q9 := hX9.cell 2
                  have f9 := hX9.frozen 2
                  dsimp at q9
                  have hlo := hown7.lt
                  have hb9 : Below w.heap.size w w9 := below_ext (hb7.alloc hW7 (.cells #[.int .u8 0, .string (fillB 32 b)] 29)) (Nat.le_refl _) (Ext.of_grown hg9).undrew1 (fun b e => (hlo b e).1)
                  have hn9 : (Value.slice A9 (m + 1) c9).ownBlock ≠ some x := fun e => by
                    obtain ⟨cs, hcs⟩ := Own.blkT (f := slC) (l := slN m (fillB 32 b) ++ [((0 : Int), fillB 32 b)]) (by unfold Own; rw [flat_snoc, List.length_append, hsl]; exact hown9) e
                    exact hcs.ne hX9 (by decide) rfl
                  refine hK.out _ _ trivial (fun hHeld => ?_)
                  clear hK K
                  try simp only [Act.put, List.setIfInBounds_toArray, List.set_cons_zero, List.set_cons_succ]
                  refine held_take (i := 8) (v := ?_) rfl (by kernel_rfl) (by kernel_rfl) (by kernel_rfl) (fun _ _ _ h => h) (by rfl) (by assumption) (fun w hSw => ?_) ?_
                  rotate_left
                  · (try dsimp only at hSw)
                    go_simp
                    try with_reducible rfl
                  try simp only [Act.put, List.setIfInBounds_toArray, List.set_cons_zero, List.set_cons_succ]
                  refine wpAnyH_ready (rs := [9]) (by kernel_rfl) (by simp) ?_
                  refine held_cons (i := 9) rfl (by rfl) (fun K hK => ?_) AllReadyH.nil
                  go_simp
                  refine hK.out _ _ trivial (fun hHeld => ?_)
                  clear hK K
                  try simp only [Act.put, List.setIfInBounds_toArray, List.set_cons_zero, List.set_cons_succ]
                  refine wpAnyH_done (by kernel_rfl) ?_ _
                  have hse := Ext.self w9 x 2 (.slice A9 (m + 1) c9)
                  have hX10 : Blk (w9.setCell ⟨x, 2, none⟩ (.slice A9 (m + 1) c9)) x 27 #[.string ⟨#[]⟩, .bool false, .slice A9 (m + 1) c9, .slice none 0 0] := hX9.set 2 (.slice A9 (m + 1) c9)
                  have hb10 := below_ext hb9 (Nat.le_refl _) hse (fun b e => e ▸ hxw)
                  have hrow10 : Row (w9.setCell ⟨x, 2, none⟩ (.slice A9 (m + 1) c9)) A9 (flat slC (slN m (fillB 32 b) ++ [((0 : Int), fillB 32 b)])) := by
                    rw [flat_snoc]
                    exact (Row.of_own hown9).ext hse (fun ad e hn hS => hn9 (by rw [e]; exact congrArg some hS))
                  generalize w9.setCell ⟨x, 2, none⟩ (.slice A9 (m + 1) c9) = w10 at *
                  clear q0 q1 q2 q3 q9 f9 f2 hse hX9 hb9 hown9 hg9 hX7 hrow7 hown7 hb7
                  have q0 := hX10.cell 0
                  have q1 := hX10.cell 1
                  have q2 := hX10.cell 2
                  have q3 := hX10.cell 3
                  dsimp at q0 q1 q2 q3
                  go_wp2_with fail
                  refine page_EncodeL (moreP m (fillB 32 b)) (n1 := m + 1) (n2 := 0) (by show (slN m _ ++ [_]).length = m + 1; rw [List.length_append, hsl]; rfl) rfl A9 none c9 0 w10 hrow10 (Row.nil _ _) (by omega) (by decide) (moreP_range h1) ?_
                  have hme := moreP_enc h0 h1 hfz
                  generalize pageEnc (moreP m (fillB 32 b)) = pe at *
                  obtain ⟨pt, pr⟩ := pe
                  dsimp only at hme ⊢
                  intro w11 hb11
                  have hb11 := hb10.trans (hb11.mono hb10.size)
                  by_cases h256 : m = 256
                  · rw [if_pos h256] at hme
                    have hv1 : ((m : Int) == 256) = true := by simp [h256]
                    subst hme
                    go_wp2_with fail
                    go_ret
                    exact ⟨rfl, hb11⟩
                  · rw [if_neg h256] at hme
                    have hv1 : ((m : Int) == 256) = false := by
                      have : ¬ (m : Int) = 256 := by omega
                      simpa using this
                    have hv2 : (m : Int) < 256 := by omega
                    have hv3 : decide ((m : Int) < 256) = true := decide_eq_true hv2
                    subst hme
                    go_wp2_with fail
                    go_ret
                    exact ⟨rfl, hb11⟩
          · have hbi : ¬ (127 : Int) < (m : Int) := by omega
            have hbd : decide ((127 : Int) < (m : Int)) = false := decide_eq_false hbi
            rw [if_neg hbg] at hSz
            have hne : ((S.size : Int) != 3 + 33 * (m : Int)) = false := by
              have : (S.size : Int) = 3 + 33 * (m : Int) := by omega
              simpa using this
            go_wp2_with fail
            refine page_Decode S w3 (by omega) ?_
            rw [HSD.out]
            intro A5 B5 c5 d5 w5 hr5 hs5 _ _ hb5
            have hX5 := hX3.below hb5 hX3.lt
            have hrow5 := hrow3.below hb5 (Nat.le_refl _)
            have hown5 := hown3.below hb5
            have hb5 := hb3.trans (hb5.mono hb3.size)
            clear hX3 hrow3 hown3 hb3 q0 q1 q2 q3 hne HSD hSz hmul hadd hadd1
            unfold pgA
            rw [show (fullP m (fillB 32 b)).sl.length = m from slN_len _ _, show (fullP m (fillB 32 b)).it.length = 0 from rfl, show (fullP m (fillB 32 b)).pre = ⟨#[]⟩ from rfl, show (fullP m (fillB 32 b)).leaf = false from rfl]
            go_upto_region 21 with fail
            have hY := Blk.new w5 27 #[.string ⟨#[]⟩, .bool false, .slice A5 m c5, .slice B5 0 d5]
            have hX6 := hX5.alloc (.cells #[.string ⟨#[]⟩, .bool false, .slice A5 m c5, .slice B5 0 d5] 27)
            have hrow6 := hrow5.alloc (.cells #[.string ⟨#[]⟩, .bool false, .slice A5 m c5, .slice B5 0 d5] 27)
            have hown6 := hown5.alloc (.cells #[.string ⟨#[]⟩, .bool false, .slice A5 m c5, .slice B5 0 d5] 27)
            have hr6 := hr5.alloc (.cells #[.string ⟨#[]⟩, .bool false, .slice A5 m c5, .slice B5 0 d5] 27)
            have hs6 := hs5.alloc (.cells #[.string ⟨#[]⟩, .bool false, .slice A5 m c5, .slice B5 0 d5] 27)
            have hb6 := hb5.alloc hb5.size (.cells #[.string ⟨#[]⟩, .bool false, .slice A5 m c5, .slice B5 0 d5] 27)
            generalize (w5.alloc (.cells #[.string ⟨#[]⟩, .bool false, .slice A5 m c5, .slice B5 0 d5] 27)) = w6 at *
            generalize w5.heap.size = y at *
            clear hX5 hrow5 hown5 hr5 hs5 hb5
            have q0 := hX6.cell 0
            have q1 := hX6.cell 1
            have q2 := hX6.cell 2
            have q3 := hX6.cell 3
            have y0 := hY.cell 0
            have y1 := hY.cell 1
            have y2 := hY.cell 2
            have y3 := hY.cell 3
            dsimp at q0 q1 q2 q3 y0 y1 y2 y3
            go_wp2_with fail
            refine ref20_SameL (fullP m (fillB 32 b)) (fullP m (fillB 32 b)) (n2 := 0) (m2 := 0) (slN_len _ _) rfl (slN_len _ _) rfl A none A5 B5 c 0 c5 d5 w6 hrow6 (Row.nil _ _) hr6 hs6 (by omega) (by decide) ?_
            rw [sameR_self]
            intro w7 hb7
            have hX7 := hX6.below hb7 hX6.lt
            have hrow7 := hrow6.below hb7 (Nat.le_refl _)
            have hown7 := hown6.below hb7
            have hb7 := hb6.trans (hb7.mono hb6.size)
            clear hX6 hrow6 hown6 hr6 hs6 hb6 q0 q1 q2 q3 y0 y1 y2 y3 hY
            have q0 := hX7.cell 0
            have q1 := hX7.cell 1
            have q2 := hX7.cell 2
            have q3 := hX7.cell 3
            have f2 := hX7.frozen 2
            dsimp at q0 q1 q2 q3
            go_wp2_with fail
            obtain ⟨pb, po, rfl, _, e0, e1⟩ := hrow7.sl 0 (by rw [slN_len]; omega)
            rw [slN_get m _ 0 h0] at e0 e1
            rw [Nat.zero_mul, Nat.add_zero] at e0 e1
            dsimp only at e0 e1
            have hmp : (0 : Int) < (m : Int) := by omega
            have hW7 := hb7.size
            refine wp_region_held_drew (S := fun _ => True) (by kernel_rfl) trivial (fun hHeld => ?_)
            refine held_take (i := 0) (v := ?_) rfl (by kernel_rfl) (by kernel_rfl) (by kernel_rfl) (fun _ _ _ h => h) (by rfl) (by assumption) (fun w hSw => ?_) ?_
            rotate_left
            · (try dsimp only at hSw)
              go_simp
              try with_reducible rfl
            try simp only [Act.put, List.setIfInBounds_toArray, List.set_cons_zero, List.set_cons_succ]
            refine held_take (i := 2) (v := ?_) rfl (by kernel_rfl) (by kernel_rfl) (by kernel_rfl) (fun _ _ _ h => h) (by rfl) (by assumption) (fun w hSw => ?_) ?_
            rotate_left
            · (try dsimp only at hSw)
              go_simp
              try with_reducible rfl
            try simp only [Act.put, List.setIfInBounds_toArray, List.set_cons_zero, List.set_cons_succ]
            have qA : ∀ o, (w7.alloc o).cell? ⟨x, 2, none⟩ = some (.slice (some ⟨pb, po, none⟩) m c) := fun o => (World.cell?_alloc_some w7 _ o (by rw [q2]; rfl)).trans q2
            have qB : ∀ o, (w7.alloc o).drew.cell? ⟨x, 2, none⟩ = some (.slice (some ⟨pb, po, none⟩) m c) := qA
            have qC : ∀ o, (w7.drew.alloc o).cell? ⟨x, 2, none⟩ = some (.slice (some ⟨pb, po, none⟩) m c) := qA
            refine wpAnyH_ready (rs := [1, 3]) (by kernel_rfl) (by simp) ?_
            refine held_cons (i := 1) rfl (by rfl) (fun K hK => ?_) ?_
            · go_simp
              refine hK.out _ _ trivial (fun hHeld => ?_)
              clear hK K
              try simp only [Act.put, List.setIfInBounds_toArray, List.set_cons_zero, List.set_cons_succ]
              refine wpAnyH_ready (rs := [3]) (by kernel_rfl) (by simp) ?_
              refine held_cons (i := 3) rfl (by rfl) (fun K hK => ?_) AllReadyH.nil
              go_simp
              refine hK.out _ _ trivial (fun hHeld => ?_)
              clear hK K
              try simp only [Act.put, List.setIfInBounds_toArray, List.set_cons_zero, List.set_cons_succ]
              refine held_take (i := 4) (v := ?_) rfl (by kernel_rfl) (by kernel_rfl) (by kernel_rfl) (fun _ _ _ h => h) (by rfl) (by assumption) (fun w hSw => ?_) ?_
              rotate_left
              · (try dsimp only at hSw)
                go_simp
                try with_reducible rfl
              try simp only [Act.put, List.setIfInBounds_toArray, List.set_cons_zero, List.set_cons_succ]
              refine wpAnyH_ready (rs := [5]) (by kernel_rfl) (by simp) ?_
              refine held_cons (i := 5) rfl (by rfl) (fun K hK => ?_) AllReadyH.nil
              go_simp
              refine hK.out _ _ trivial (fun hHeld => ?_)
              clear hK K
              try simp only [Act.put, List.setIfInBounds_toArray, List.set_cons_zero, List.set_cons_succ]
              refine wpAnyH_ready (rs := [6]) (by kernel_rfl) (by simp) ?_
              refine held_cons (i := 6) rfl (by rfl) (fun K hK => ?_) AllReadyH.nil
              go_simp
              refine hK.out _ _ trivial (fun hHeld => ?_)
              clear hK K
              try simp only [Act.put, List.setIfInBounds_toArray, List.set_cons_zero, List.set_cons_succ]
              refine wpAnyH_ready (rs := [7]) (by kernel_rfl) (by simp) ?_
              refine held_cons (i := 7) rfl (by rfl) (fun K hK => ?_) AllReadyH.nil
              have hownA : (w7.alloc (.cells #[.int .u8 0, .string (fillB 32 b)] 29)).ownsRow w.heap.size 29 2 (.slice (some ⟨pb, po, none⟩) m c) m (flat slC (slN m (fillB 32 b))) := by
                have := hown7.alloc (.cells #[.int .u8 0, .string (fillB 32 b)] 29)
                unfold Own at this
                rw [hsl] at this
                exact this
              refine wp_append_own_wide _ _ _ 24 rfl w.heap.size 29 i0 _ 2 24 Try.underlying24 hi0 hz0 hz1 hz2 rfl (by decide) (.slice (some ⟨pb, po, none⟩) m c) m (flat slC (slN m (fillB 32 b))) (by rfl) hownA ⟨w7.heap.size, 0, none⟩ 1 1 (slC ((0 : Int), fillB 32 b)) (by rfl) rfl (by exact (Blk.new w7 29 #[.int .u8 0, .string (fillB 32 b)]).news rfl) (slC_one _) (by unfold maxLen; omega) (by omega) (Nat.le_trans hW7 (by show _ ≤ (w7.alloc _).heap.size; simp)) ?_
              intro v9 w9 hown9 hg9 _
              obtain ⟨A9, c9, rfl⟩ := own_slice hown9
              have hX9 : Blk w9 x 27 #[.string ⟨#[]⟩, .bool false, .slice (some ⟨pb, po, none⟩) m c, .slice none 0 0] := Blk.ext (w := w7.alloc (.cells #[.int .u8 0, .string (fillB 32 b)] 29)) (hX7.alloc _) (Ext.of_grown hg9).undrew1 (Own.ne (hown7.alloc (.cells #[.int .u8 0, .string (fillB 32 b)] 29)) (hX7.alloc (.cells #[.int .u8 0, .string (fillB 32 b)] 29)) (by decide))
              have q9 := hX9.cell 2
              have f9 := hX9.frozen 2
              dsimp at q9
              have hlo := hown7.lt
              have hb9 : Below w.heap.size w w9 := below_ext (hb7.alloc hW7 (.cells #[.int .u8 0, .string (fillB 32 b)] 29)) (Nat.le_refl _) (Ext.of_grown hg9).undrew1 (fun b e => (hlo b e).1)
              have hn9 : (Value.slice A9 (m + 1) c9).ownBlock ≠ some x := fun e => by
                obtain ⟨cs, hcs⟩ := Own.blkT (f := slC) (l := slN m (fillB 32 b) ++ [((0 : Int), fillB 32 b)]) (by unfold Own; rw [flat_snoc, List.length_append, hsl]; exact hown9) e
                exact hcs.ne hX9 (by decide) rfl
              refine hK.out _ _ trivial (fun hHeld => ?_)
              clear hK K
              try simp only [Act.put, List.setIfInBounds_toArray, List.set_cons_zero, List.set_cons_succ]
              refine held_take (i := 8) (v := ?_) rfl (by kernel_rfl) (by kernel_rfl) (by kernel_rfl) (fun _ _ _ h => h) (by rfl) (by assumption) (fun w hSw => ?_) ?_
              rotate_left
              · (try dsimp only at hSw)
                go_simp
                try with_reducible rfl
              try simp only [Act.put, List.setIfInBounds_toArray, List.set_cons_zero, List.set_cons_succ]
              refine wpAnyH_ready (rs := [9]) (by kernel_rfl) (by simp) ?_
              refine held_cons (i := 9) rfl (by rfl) (fun K hK => ?_) AllReadyH.nil
              go_simp
              refine hK.out _ _ trivial (fun hHeld => ?_)
              clear hK K
              try simp only [Act.put, List.setIfInBounds_toArray, List.set_cons_zero, List.set_cons_succ]
              refine wpAnyH_done (by kernel_rfl) ?_ _
              have hse := Ext.self w9 x 2 (.slice A9 (m + 1) c9)
              have hX10 : Blk (w9.setCell ⟨x, 2, none⟩ (.slice A9 (m + 1) c9)) x 27 #[.string ⟨#[]⟩, .bool false, .slice A9 (m + 1) c9, .slice none 0 0] := hX9.set 2 (.slice A9 (m + 1) c9)
              have hb10 := below_ext hb9 (Nat.le_refl _) hse (fun b e => e ▸ hxw)
              have hrow10 : Row (w9.setCell ⟨x, 2, none⟩ (.slice A9 (m + 1) c9)) A9 (flat slC (slN m (fillB 32 b) ++ [((0 : Int), fillB 32 b)])) := by
                rw [flat_snoc]
                exact (Row.of_own hown9).ext hse (fun ad e hn hS => hn9 (by rw [e]; exact congrArg some hS))
              generalize w9.setCell ⟨x, 2, none⟩ (.slice A9 (m + 1) c9) = w10 at *
              clear q0 q1 q2 q3 q9 f9 f2 hse hX9 hb9 hown9 hg9 hX7 hrow7 hown7 hb7
              have q0 := hX10.cell 0
              have q1 := hX10.cell 1
              have q2 := hX10.cell 2
              have q3 := hX10.cell 3
              dsimp at q0 q1 q2 q3
              go_wp2_with fail
              refine page_EncodeL (moreP m (fillB 32 b)) (n1 := m + 1) (n2 := 0) (by show (slN m _ ++ [_]).length = m + 1; rw [List.length_append, hsl]; rfl) rfl A9 none c9 0 w10 hrow10 (Row.nil _ _) (by omega) (by decide) (moreP_range h1) ?_
              have hme := moreP_enc h0 h1 hfz
              generalize pageEnc (moreP m (fillB 32 b)) = pe at *
              obtain ⟨pt, pr⟩ := pe
              dsimp only at hme ⊢
              intro w11 hb11
              have hb11 := hb10.trans (hb11.mono hb10.size)
              by_cases h256 : m = 256
              · rw [if_pos h256] at hme
                have hv1 : ((m : Int) == 256) = true := by simp [h256]
                subst hme
                go_wp2_with fail
                go_ret
                exact ⟨rfl, hb11⟩
              · rw [if_neg h256] at hme
                have hv1 : ((m : Int) == 256) = false := by
                  have : ¬ (m : Int) = 256 := by omega
                  simpa using this
                have hv2 : (m : Int) < 256 := by omega
                have hv3 : decide ((m : Int) < 256) = true := decide_eq_true hv2
                subst hme
                go_wp2_with fail
                go_ret
                exact ⟨rfl, hb11⟩
            · refine held_cons (i := 3) rfl (by rfl) (fun K hK => ?_) AllReadyH.nil
              go_simp
              refine hK.out _ _ trivial (fun hHeld => ?_)
              clear hK K
              try simp only [Act.put, List.setIfInBounds_toArray, List.set_cons_zero, List.set_cons_succ]
              refine held_take (i := 4) (v := ?_) rfl (by kernel_rfl) (by kernel_rfl) (by kernel_rfl) (fun _ _ _ h => h) (by rfl) (by assumption) (fun w hSw => ?_) ?_
              rotate_left
              · (try dsimp only at hSw)
                go_simp
                try with_reducible rfl
              try simp only [Act.put, List.setIfInBounds_toArray, List.set_cons_zero, List.set_cons_succ]
              refine wpAnyH_ready (rs := [1, 5]) (by kernel_rfl) (by simp) ?_
              refine held_cons (i := 1) rfl (by rfl) (fun K hK => ?_) ?_
              · go_simp
                refine hK.out _ _ trivial (fun hHeld => ?_)
                clear hK K
                try simp only [Act.put, List.setIfInBounds_toArray, List.set_cons_zero, List.set_cons_succ]
                refine wpAnyH_ready (rs := [5]) (by kernel_rfl) (by simp) ?_
                refine held_cons (i := 5) rfl (by rfl) (fun K hK => ?_) AllReadyH.nil
                go_simp
                refine hK.out _ _ trivial (fun hHeld => ?_)
                clear hK K
                try simp only [Act.put, List.setIfInBounds_toArray, List.set_cons_zero, List.set_cons_succ]
                refine wpAnyH_ready (rs := [6]) (by kernel_rfl) (by simp) ?_
                refine held_cons (i := 6) rfl (by rfl) (fun K hK => ?_) AllReadyH.nil
                go_simp
                refine hK.out _ _ trivial (fun hHeld => ?_)
                clear hK K
                try simp only [Act.put, List.setIfInBounds_toArray, List.set_cons_zero, List.set_cons_succ]
                refine wpAnyH_ready (rs := [7]) (by kernel_rfl) (by simp) ?_
                refine held_cons (i := 7) rfl (by rfl) (fun K hK => ?_) AllReadyH.nil
                have hownA : (w7.alloc (.cells #[.int .u8 0, .string (fillB 32 b)] 29)).ownsRow w.heap.size 29 2 (.slice (some ⟨pb, po, none⟩) m c) m (flat slC (slN m (fillB 32 b))) := by
                  have := hown7.alloc (.cells #[.int .u8 0, .string (fillB 32 b)] 29)
                  unfold Own at this
                  rw [hsl] at this
                  exact this
                refine wp_append_own_wide _ _ _ 24 rfl w.heap.size 29 i0 _ 2 24 Try.underlying24 hi0 hz0 hz1 hz2 rfl (by decide) (.slice (some ⟨pb, po, none⟩) m c) m (flat slC (slN m (fillB 32 b))) (by rfl) hownA ⟨w7.heap.size, 0, none⟩ 1 1 (slC ((0 : Int), fillB 32 b)) (by rfl) rfl (by exact (Blk.new w7 29 #[.int .u8 0, .string (fillB 32 b)]).news rfl) (slC_one _) (by unfold maxLen; omega) (by omega) (Nat.le_trans hW7 (by show _ ≤ (w7.alloc _).heap.size; simp)) ?_
                intro v9 w9 hown9 hg9 _
                obtain ⟨A9, c9, rfl⟩ := own_slice hown9
                have hX9 : Blk w9 x 27 #[.string ⟨#[]⟩, .bool false, .slice (some ⟨pb, po, none⟩) m c, .slice none 0 0] := Blk.ext (w := w7.alloc (.cells #[.int .u8 0, .string (fillB 32 b)] 29)) (hX7.alloc _) (Ext.of_grown hg9).undrew1 (Own.ne (hown7.alloc (.cells #[.int .u8 0, .string (fillB 32 b)] 29)) (hX7.alloc (.cells #[.int .u8 0, .string (fillB 32 b)] 29)) (by decide))
                have q9 := hX9.cell 2
                have f9 := hX9.frozen 2
                dsimp at q9
                have hlo := hown7.lt
                have hb9 : Below w.heap.size w w9 := below_ext (hb7.alloc hW7 (.cells #[.int .u8 0, .string (fillB 32 b)] 29)) (Nat.le_refl _) (Ext.of_grown hg9).undrew1 (fun b e => (hlo b e).1)
                have hn9 : (Value.slice A9 (m + 1) c9).ownBlock ≠ some x := fun e => by
                  obtain ⟨cs, hcs⟩ := Own.blkT (f := slC) (l := slN m (fillB 32 b) ++ [((0 : Int), fillB 32 b)]) (by unfold Own; rw [flat_snoc, List.length_append, hsl]; exact hown9) e
                  exact hcs.ne hX9 (by decide) rfl
                refine hK.out _ _ trivial (fun hHeld => ?_)
                clear hK K
                try simp only [Act.put, List.setIfInBounds_toArray, List.set_cons_zero, List.set_cons_succ]
                refine held_take (i := 8) (v := ?_) rfl (by kernel_rfl) (by kernel_rfl) (by kernel_rfl) (fun _ _ _ h => h) (by rfl) (by assumption) (fun w hSw => ?_) ?_
                rotate_left
                · (try dsimp only at hSw)
                  go_simp
                  try with_reducible rfl
                try simp only [Act.put, List.setIfInBounds_toArray, List.set_cons_zero, List.set_cons_succ]
                refine wpAnyH_ready (rs := [9]) (by kernel_rfl) (by simp) ?_
                refine held_cons (i := 9) rfl (by rfl) (fun K hK => ?_) AllReadyH.nil
                go_simp
                refine hK.out _ _ trivial (fun hHeld => ?_)
                clear hK K
                try simp only [Act.put, List.setIfInBounds_toArray, List.set_cons_zero, List.set_cons_succ]
                refine wpAnyH_done (by kernel_rfl) ?_ _
                have hse := Ext.self w9 x 2 (.slice A9 (m + 1) c9)
                have hX10 : Blk (w9.setCell ⟨x, 2, none⟩ (.slice A9 (m + 1) c9)) x 27 #[.string ⟨#[]⟩, .bool false, .slice A9 (m + 1) c9, .slice none 0 0] := hX9.set 2 (.slice A9 (m + 1) c9)
                have hb10 := below_ext hb9 (Nat.le_refl _) hse (fun b e => e ▸ hxw)
                have hrow10 : Row (w9.setCell ⟨x, 2, none⟩ (.slice A9 (m + 1) c9)) A9 (flat slC (slN m (fillB 32 b) ++ [((0 : Int), fillB 32 b)])) := by
                  rw [flat_snoc]
                  exact (Row.of_own hown9).ext hse (fun ad e hn hS => hn9 (by rw [e]; exact congrArg some hS))
                generalize w9.setCell ⟨x, 2, none⟩ (.slice A9 (m + 1) c9) = w10 at *
                clear q0 q1 q2 q3 q9 f9 f2 hse hX9 hb9 hown9 hg9 hX7 hrow7 hown7 hb7
                have q0 := hX10.cell 0
                have q1 := hX10.cell 1
                have q2 := hX10.cell 2
                have q3 := hX10.cell 3
                dsimp at q0 q1 q2 q3
                go_wp2_with fail
                refine page_EncodeL (moreP m (fillB 32 b)) (n1 := m + 1) (n2 := 0) (by show (slN m _ ++ [_]).length = m + 1; rw [List.length_append, hsl]; rfl) rfl A9 none c9 0 w10 hrow10 (Row.nil _ _) (by omega) (by decide) (moreP_range h1) ?_
                have hme := moreP_enc h0 h1 hfz
                generalize pageEnc (moreP m (fillB 32 b)) = pe at *
                obtain ⟨pt, pr⟩ := pe
                dsimp only at hme ⊢
                intro w11 hb11
                have hb11 := hb10.trans (hb11.mono hb10.size)
                by_cases h256 : m = 256
                · rw [if_pos h256] at hme
                  have hv1 : ((m : Int) == 256) = true := by simp [h256]
                  subst hme
                  go_wp2_with fail
                  go_ret
                  exact ⟨rfl, hb11⟩
                · rw [if_neg h256] at hme
                  have hv1 : ((m : Int) == 256) = false := by
                    have : ¬ (m : Int) = 256 := by omega
                    simpa using this
                  have hv2 : (m : Int) < 256 := by omega
                  have hv3 : decide ((m : Int) < 256) = true := decide_eq_true hv2
                  subst hme
                  go_wp2_with fail
                  go_ret
                  exact ⟨rfl, hb11⟩
              · refine held_cons (i := 5) rfl (by rfl) (fun K hK => ?_) AllReadyH.nil
                go_simp
                refine hK.out _ _ trivial (fun hHeld => ?_)
                clear hK K
                try simp only [Act.put, List.setIfInBounds_toArray, List.set_cons_zero, List.set_cons_succ]
                refine wpAnyH_ready (rs := [1, 6]) (by kernel_rfl) (by simp) ?_
                refine held_cons (i := 1) rfl (by rfl) (fun K hK => ?_) ?_
                · go_simp
                  refine hK.out _ _ trivial (fun hHeld => ?_)
                  clear hK K
                  try simp only [Act.put, List.setIfInBounds_toArray, List.set_cons_zero, List.set_cons_succ]
                  refine wpAnyH_ready (rs := [6]) (by kernel_rfl) (by simp) ?_
                  refine held_cons (i := 6) rfl (by rfl) (fun K hK => ?_) AllReadyH.nil
                  go_simp
                  refine hK.out _ _ trivial (fun hHeld => ?_)
                  clear hK K
                  try simp only [Act.put, List.setIfInBounds_toArray, List.set_cons_zero, List.set_cons_succ]
                  refine wpAnyH_ready (rs := [7]) (by kernel_rfl) (by simp) ?_
                  refine held_cons (i := 7) rfl (by rfl) (fun K hK => ?_) AllReadyH.nil
                  have hownA : (w7.alloc (.cells #[.int .u8 0, .string (fillB 32 b)] 29)).ownsRow w.heap.size 29 2 (.slice (some ⟨pb, po, none⟩) m c) m (flat slC (slN m (fillB 32 b))) := by
                    have := hown7.alloc (.cells #[.int .u8 0, .string (fillB 32 b)] 29)
                    unfold Own at this
                    rw [hsl] at this
                    exact this
                  refine wp_append_own_wide _ _ _ 24 rfl w.heap.size 29 i0 _ 2 24 Try.underlying24 hi0 hz0 hz1 hz2 rfl (by decide) (.slice (some ⟨pb, po, none⟩) m c) m (flat slC (slN m (fillB 32 b))) (by rfl) hownA ⟨w7.heap.size, 0, none⟩ 1 1 (slC ((0 : Int), fillB 32 b)) (by rfl) rfl (by exact (Blk.new w7 29 #[.int .u8 0, .string (fillB 32 b)]).news rfl) (slC_one _) (by unfold maxLen; omega) (by omega) (Nat.le_trans hW7 (by show _ ≤ (w7.alloc _).heap.size; simp)) ?_
                  intro v9 w9 hown9 hg9 _
                  obtain ⟨A9, c9, rfl⟩ := own_slice hown9
                  have hX9 : Blk w9 x 27 #[.string ⟨#[]⟩, .bool false, .slice (some ⟨pb, po, none⟩) m c, .slice none 0 0] := Blk.ext (w := w7.alloc (.cells #[.int .u8 0, .string (fillB 32 b)] 29)) (hX7.alloc _) (Ext.of_grown hg9).undrew1 (Own.ne (hown7.alloc (.cells #[.int .u8 0, .string (fillB 32 b)] 29)) (hX7.alloc (.cells #[.int .u8 0, .string (fillB 32 b)] 29)) (by decide))
                  have q9 := hX9.cell 2
                  have f9 := hX9.frozen 2
                  dsimp at q9
                  have hlo := hown7.lt
                  have hb9 : Below w.heap.size w w9 := below_ext (hb7.alloc hW7 (.cells #[.int .u8 0, .string (fillB 32 b)] 29)) (Nat.le_refl _) (Ext.of_grown hg9).undrew1 (fun b e => (hlo b e).1)
                  have hn9 : (Value.slice A9 (m + 1) c9).ownBlock ≠ some x := fun e => by
                    obtain ⟨cs, hcs⟩ := Own.blkT (f := slC) (l := slN m (fillB 32 b) ++ [((0 : Int), fillB 32 b)]) (by unfold Own; rw [flat_snoc, List.length_append, hsl]; exact hown9) e
                    exact hcs.ne hX9 (by decide) rfl
                  refine hK.out _ _ trivial (fun hHeld => ?_)
                  clear hK K
                  try simp only [Act.put, List.setIfInBounds_toArray, List.set_cons_zero, List.set_cons_succ]
                  refine held_take (i := 8) (v := ?_) rfl (by kernel_rfl) (by kernel_rfl) (by kernel_rfl) (fun _ _ _ h => h) (by rfl) (by assumption) (fun w hSw => ?_) ?_
                  rotate_left
                  · (try dsimp only at hSw)
                    go_simp
                    try with_reducible rfl
                  try simp only [Act.put, List.setIfInBounds_toArray, List.set_cons_zero, List.set_cons_succ]
                  refine wpAnyH_ready (rs := [9]) (by kernel_rfl) (by simp) ?_
                  refine held_cons (i := 9) rfl (by rfl) (fun K hK => ?_) AllReadyH.nil
                  go_simp
                  refine hK.out _ _ trivial (fun hHeld => ?_)
                  clear hK K
                  try simp only [Act.put, List.setIfInBounds_toArray, List.set_cons_zero, List.set_cons_succ]
                  refine wpAnyH_done (by kernel_rfl) ?_ _
                  have hse := Ext.self w9 x 2 (.slice A9 (m + 1) c9)
                  have hX10 : Blk (w9.setCell ⟨x, 2, none⟩ (.slice A9 (m + 1) c9)) x 27 #[.string ⟨#[]⟩, .bool false, .slice A9 (m + 1) c9, .slice none 0 0] := hX9.set 2 (.slice A9 (m + 1) c9)
                  have hb10 := below_ext hb9 (Nat.le_refl _) hse (fun b e => e ▸ hxw)
                  have hrow10 : Row (w9.setCell ⟨x, 2, none⟩ (.slice A9 (m + 1) c9)) A9 (flat slC (slN m (fillB 32 b) ++ [((0 : Int), fillB 32 b)])) := by
                    rw [flat_snoc]
                    exact (Row.of_own hown9).ext hse (fun ad e hn hS => hn9 (by rw [e]; exact congrArg some hS))
                  generalize w9.setCell ⟨x, 2, none⟩ (.slice A9 (m + 1) c9) = w10 at *
                  clear q0 q1 q2 q3 q9 f9 f2 hse hX9 hb9 hown9 hg9 hX7 hrow7 hown7 hb7
                  have q0 := hX10.cell 0
                  have q1 := hX10.cell 1
                  have q2 := hX10.cell 2
                  have q3 := hX10.cell 3
                  dsimp at q0 q1 q2 q3
                  go_wp2_with fail
                  refine page_EncodeL (moreP m (fillB 32 b)) (n1 := m + 1) (n2 := 0) (by show (slN m _ ++ [_]).length = m + 1; rw [List.length_append, hsl]; rfl) rfl A9 none c9 0 w10 hrow10 (Row.nil _ _) (by omega) (by decide) (moreP_range h1) ?_
                  have hme := moreP_enc h0 h1 hfz
                  generalize pageEnc (moreP m (fillB 32 b)) = pe at *
                  obtain ⟨pt, pr⟩ := pe
                  dsimp only at hme ⊢
                  intro w11 hb11
                  have hb11 := hb10.trans (hb11.mono hb10.size)
                  by_cases h256 : m = 256
                  · rw [if_pos h256] at hme
                    have hv1 : ((m : Int) == 256) = true := by simp [h256]
                    subst hme
                    go_wp2_with fail
                    go_ret
                    exact ⟨rfl, hb11⟩
                  · rw [if_neg h256] at hme
                    have hv1 : ((m : Int) == 256) = false := by
                      have : ¬ (m : Int) = 256 := by omega
                      simpa using this
                    have hv2 : (m : Int) < 256 := by omega
                    have hv3 : decide ((m : Int) < 256) = true := decide_eq_true hv2
                    subst hme
                    go_wp2_with fail
                    go_ret
                    exact ⟨rfl, hb11⟩
                · refine held_cons (i := 6) rfl (by rfl) (fun K hK => ?_) AllReadyH.nil
                  go_simp
                  refine hK.out _ _ trivial (fun hHeld => ?_)
                  clear hK K
                  try simp only [Act.put, List.setIfInBounds_toArray, List.set_cons_zero, List.set_cons_succ]
                  refine wpAnyH_ready (rs := [1]) (by kernel_rfl) (by simp) ?_
                  refine held_cons (i := 1) rfl (by rfl) (fun K hK => ?_) AllReadyH.nil
                  go_simp
                  refine hK.out _ _ trivial (fun hHeld => ?_)
                  clear hK K
                  try simp only [Act.put, List.setIfInBounds_toArray, List.set_cons_zero, List.set_cons_succ]
                  refine wpAnyH_ready (rs := [7]) (by kernel_rfl) (by simp) ?_
                  refine held_cons (i := 7) rfl (by rfl) (fun K hK => ?_) AllReadyH.nil
                  have hownA : (w7.alloc (.cells #[.int .u8 0, .string (fillB 32 b)] 29)).ownsRow w.heap.size 29 2 (.slice (some ⟨pb, po, none⟩) m c) m (flat slC (slN m (fillB 32 b))) := by
                    have := hown7.alloc (.cells #[.int .u8 0, .string (fillB 32 b)] 29)
                    unfold Own at this
                    rw [hsl] at this
                    exact this
                  refine wp_append_own_wide _ _ _ 24 rfl w.heap.size 29 i0 _ 2 24 Try.underlying24 hi0 hz0 hz1 hz2 rfl (by decide) (.slice (some ⟨pb, po, none⟩) m c) m (flat slC (slN m (fillB 32 b))) (by rfl) hownA ⟨w7.heap.size, 0, none⟩ 1 1 (slC ((0 : Int), fillB 32 b)) (by rfl) rfl (by exact (Blk.new w7 29 #[.int .u8 0, .string (fillB 32 b)]).news rfl) (slC_one _) (by unfold maxLen; omega) (by omega) (Nat.le_trans hW7 (by show _ ≤ (w7.alloc _).heap.size; simp)) ?_
                  intro v9 w9 hown9 hg9 _
                  obtain ⟨A9, c9, rfl⟩ := own_slice hown9
                  have hX9 : Blk w9 x 27 #[.string ⟨#[]⟩, .bool false, .slice (some ⟨pb, po, none⟩) m c, .slice none 0 0] := Blk.ext (w := w7.alloc (.cells #[.int .u8 0, .string (fillB 32 b)] 29)) (hX7.alloc _) (Ext.of_grown hg9).undrew1 (Own.ne (hown7.alloc (.cells #[.int .u8 0, .string (fillB 32 b)] 29)) (hX7.alloc (.cells #[.int .u8 0, .string (fillB 32 b)] 29)) (by decide))
                  have q9 := hX9.cell 2
                  have f9 := hX9.frozen 2
                  dsimp at q9
                  have hlo := hown7.lt
                  have hb9 : Below w.heap.size w w9 := below_ext (hb7.alloc hW7 (.cells #[.int .u8 0, .string (fillB 32 b)] 29)) (Nat.le_refl _) (Ext.of_grown hg9).undrew1 (fun b e => (hlo b e).1)
                  have hn9 : (Value.slice A9 (m + 1) c9).ownBlock ≠ some x := fun e => by
                    obtain ⟨cs, hcs⟩ := Own.blkT (f := slC) (l := slN m (fillB 32 b) ++ [((0 : Int), fillB 32 b)]) (by unfold Own; rw [flat_snoc, List.length_append, hsl]; exact hown9) e
                    exact hcs.ne hX9 (by decide) rfl
                  refine hK.out _ _ trivial (fun hHeld => ?_)
                  clear hK K
                  try simp only [Act.put, List.setIfInBounds_toArray, List.set_cons_zero, List.set_cons_succ]
                  refine held_take (i := 8) (v := ?_) rfl (by kernel_rfl) (by kernel_rfl) (by kernel_rfl) (fun _ _ _ h => h) (by rfl) (by assumption) (fun w hSw => ?_) ?_
                  rotate_left
                  · (try dsimp only at hSw)
                    go_simp
                    try with_reducible rfl
                  try simp only [Act.put, List.setIfInBounds_toArray, List.set_cons_zero, List.set_cons_succ]
                  refine wpAnyH_ready (rs := [9]) (by kernel_rfl) (by simp) ?_
                  refine held_cons (i := 9) rfl (by rfl) (fun K hK => ?_) AllReadyH.nil
                  go_simp
                  refine hK.out _ _ trivial (fun hHeld => ?_)
                  clear hK K
                  try simp only [Act.put, List.setIfInBounds_toArray, List.set_cons_zero, List.set_cons_succ]
                  refine wpAnyH_done (by kernel_rfl) ?_ _
                  have hse := Ext.self w9 x 2 (.slice A9 (m + 1) c9)
                  have hX10 : Blk (w9.setCell ⟨x, 2, none⟩ (.slice A9 (m + 1) c9)) x 27 #[.string ⟨#[]⟩, .bool false, .slice A9 (m + 1) c9, .slice none 0 0] := hX9.set 2 (.slice A9 (m + 1) c9)
                  have hb10 := below_ext hb9 (Nat.le_refl _) hse (fun b e => e ▸ hxw)
                  have hrow10 : Row (w9.setCell ⟨x, 2, none⟩ (.slice A9 (m + 1) c9)) A9 (flat slC (slN m (fillB 32 b) ++ [((0 : Int), fillB 32 b)])) := by
                    rw [flat_snoc]
                    exact (Row.of_own hown9).ext hse (fun ad e hn hS => hn9 (by rw [e]; exact congrArg some hS))
                  generalize w9.setCell ⟨x, 2, none⟩ (.slice A9 (m + 1) c9) = w10 at *
                  clear q0 q1 q2 q3 q9 f9 f2 hse hX9 hb9 hown9 hg9 hX7 hrow7 hown7 hb7
                  have q0 := hX10.cell 0
                  have q1 := hX10.cell 1
                  have q2 := hX10.cell 2
                  have q3 := hX10.cell 3
                  dsimp at q0 q1 q2 q3
                  go_wp2_with fail
                  refine page_EncodeL (moreP m (fillB 32 b)) (n1 := m + 1) (n2 := 0) (by show (slN m _ ++ [_]).length = m + 1; rw [List.length_append, hsl]; rfl) rfl A9 none c9 0 w10 hrow10 (Row.nil _ _) (by omega) (by decide) (moreP_range h1) ?_
                  have hme := moreP_enc h0 h1 hfz
                  generalize pageEnc (moreP m (fillB 32 b)) = pe at *
                  obtain ⟨pt, pr⟩ := pe
                  dsimp only at hme ⊢
                  intro w11 hb11
                  have hb11 := hb10.trans (hb11.mono hb10.size)
                  by_cases h256 : m = 256
                  · rw [if_pos h256] at hme
                    have hv1 : ((m : Int) == 256) = true := by simp [h256]
                    subst hme
                    go_wp2_with fail
                    go_ret
                    exact ⟨rfl, hb11⟩
                  · rw [if_neg h256] at hme
                    have hv1 : ((m : Int) == 256) = false := by
                      have : ¬ (m : Int) = 256 := by omega
                      simpa using this
                    have hv2 : (m : Int) < 256 := by omega
                    have hv3 : decide ((m : Int) < 256) = true := decide_eq_true hv2
                    subst hme
                    go_wp2_with fail
                    go_ret
                    exact ⟨rfl, hb11⟩
end
end Go.Proofs.Ytokjkpoegcnijaa
