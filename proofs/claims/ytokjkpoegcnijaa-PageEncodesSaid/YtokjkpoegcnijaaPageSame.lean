/- slices.Equal of slots and items; page.Same. -/
import Derived.Test.YtokjkpoegcnijaaRef20Same
namespace Go.Proofs.Ytokjkpoegcnijaa
open Go.RowKit Go.Lib
section
set_option maxHeartbeats 2000000 in
set_option maxRecDepth 100000 in
theorem slices_Equal_Slot (l m : List Sl) (A B : Option Addr) (c d : Nat) (w : World) (h1 : Row w A (flat slC l)) (h2 : Row w B (flat slC m)) (hl : l.length ≤ 140737488351232) {R : Ending → World → Prop}
    (hR : ∀ w' n, w' = w.drewN n → R (.returned (.bool (decide (l = m)))) w') :
    Calls Try.prog 94 #[.slice A l.length c, .slice B m.length d] w R := by
  have HR := Lib.hid hR
  clear hR
  have hl0 : (0 : Int) ≤ (l.length : Int) := Int.natCast_nonneg _
  by_cases hlm : l.length = m.length
  · have hlb : ((l.length : Int) != (m.length : Int)) = false := by simp [hlm]
    have HLM := Lib.hid hlm
    clear hlm
    go_enter Try.func94, Try.ntmps94
    go_wp2_with fail
    go_loopw [13] (SmRel ((0, emp) : Sl) w l m) (fun i _ => l.length - (RowKit.intOf i).toNat)
    case atStart => exact ⟨0, 0, rfl, Nat.zero_le _, fun k h => absurd h (by omega), rfl⟩
    case round =>
      obtain ⟨j, n, rfl, hj, hlk, rfl⟩ := hrel
      have hj0 : (0 : Int) ≤ (j : Int) := Int.natCast_nonneg _
      have HLK := Lib.hid hlk
      clear hlk
      by_cases hlt : j < l.length
      · have hj1 : (j : Int) < (l.length : Int) := by omega
        have hjd : decide ((j : Int) < (l.length : Int)) = true := decide_eq_true hj1
        have hlt' : j < m.length := by rw [← HLM.out]; exact hlt
        have hj2 : (j : Int) < (m.length : Int) := by omega
        have hjd2 : decide ((j : Int) < (m.length : Int)) = true := decide_eq_true hj2
        obtain ⟨b, o, hA, hb, e0, e1⟩ := h1.sl j hlt
        obtain ⟨b', o', hA', hb', f0, f1⟩ := h2.sl j hlt'
        obtain ⟨⟨k, t⟩, hkm⟩ : ∃ x, l.getD j ((0, emp) : Sl) = x := ⟨_, rfl⟩
        obtain ⟨⟨k', t'⟩, hkm'⟩ : ∃ x, m.getD j ((0, emp) : Sl) = x := ⟨_, rfl⟩
        rw [hkm] at e0 e1
        rw [hkm'] at f0 f1
        dsimp only at e0 e1 f0 f1
        have hmb := toList_beq t t'
        have hkb := int_beq k k'
        subst hA hA'
        by_cases hxy : k = k' ∧ t = t'
        · rw [decide_eq_true hxy.1] at hkb
          rw [decide_eq_true hxy.2] at hmb
          have hnx : ∀ i, i < j + 1 → l.getD i ((0, emp) : Sl) = m.getD i ((0, emp) : Sl) := fun i hi => by
            by_cases e : i = j
            · rw [e, hkm, hkm', hxy.1, hxy.2]
            · exact HLK.out i (by omega)
          have HNX := Lib.hid hnx
          clear hnx hxy hkm hkm'
          go_wp2_with fail
          go_quiet (fail)
          go_wp2
          go_roundw
          case rel => exact ⟨j + 1, _, by go_num, by omega, HNX.out, rfl⟩
          case measure => simp [RowKit.intOf]; omega
        · have hsm : decide (l = m) = false := by
            refine decide_eq_false (fun h => hxy ?_)
            rw [h, hkm'] at hkm
            exact ⟨congrArg Prod.fst hkm.symm, congrArg Prod.snd hkm.symm⟩
          rw [hsm] at HR
          clear hsm hkm hkm'
          by_cases hk : k = k'
          · have hm : ¬ t = t' := fun e => hxy ⟨hk, e⟩
            rw [decide_eq_true hk] at hkb
            rw [decide_eq_false hm] at hmb
            clear hxy hk hm
            go_wp2_with fail
            go_quiet (fail)
            go_wp2_with fail
            first | exact HR.out _ _ rfl | exact HR.out _ _ (World.drewN_drewN _ _ _)
          · rw [decide_eq_false hk] at hkb
            clear hxy hk hmb
            go_wp2_with fail
            go_quiet (fail)
            go_wp2_with fail
            first | exact HR.out _ _ rfl | exact HR.out _ _ (World.drewN_drewN _ _ _)
      · have hje : j = l.length := by omega
        have hj1 : ¬ (j : Int) < (l.length : Int) := by omega
        have hjd : decide ((j : Int) < (l.length : Int)) = false := decide_eq_false hj1
        rw [hje] at HLK
        rw [show decide (l = m) = true from decide_eq_true (list_like HLM.out HLK.out)] at HR
        clear hje
        go_wp2_with fail
        first | exact HR.out _ _ rfl | exact HR.out _ _ (World.drewN_drewN _ _ _)
  · have hlb : ((l.length : Int) != (m.length : Int)) = true := by
      have : ¬ (l.length : Int) = (m.length : Int) := by omega
      simpa using this
    rw [show decide (l = m) = false from decide_eq_false (fun h => hlm (by rw [h]))] at HR
    go_enter Try.func94, Try.ntmps94
    go_wp2_with fail
    exact HR.out _ 0 rfl
set_option maxHeartbeats 2000000 in
set_option maxRecDepth 100000 in
theorem slices_Equal_Item (l m : List It) (A B : Option Addr) (c d : Nat) (w : World) (h1 : Row w A (flat itC l)) (h2 : Row w B (flat itC m)) (hl : l.length ≤ 140737488351232) {R : Ending → World → Prop}
    (hR : ∀ w' n, w' = w.drewN n → R (.returned (.bool (decide (l = m)))) w') :
    Calls Try.prog 95 #[.slice A l.length c, .slice B m.length d] w R := by
  have HR := Lib.hid hR
  clear hR
  have hl0 : (0 : Int) ≤ (l.length : Int) := Int.natCast_nonneg _
  by_cases hlm : l.length = m.length
  · have hlb : ((l.length : Int) != (m.length : Int)) = false := by simp [hlm]
    have HLM := Lib.hid hlm
    clear hlm
    go_enter Try.func95, Try.ntmps95
    go_wp2_with fail
    go_loopw [13] (SmRel ((emp, emp) : It) w l m) (fun i _ => l.length - (RowKit.intOf i).toNat)
    case atStart => exact ⟨0, 0, rfl, Nat.zero_le _, fun k h => absurd h (by omega), rfl⟩
    case round =>
      obtain ⟨j, n, rfl, hj, hlk, rfl⟩ := hrel
      have hj0 : (0 : Int) ≤ (j : Int) := Int.natCast_nonneg _
      have HLK := Lib.hid hlk
      clear hlk
      by_cases hlt : j < l.length
      · have hj1 : (j : Int) < (l.length : Int) := by omega
        have hjd : decide ((j : Int) < (l.length : Int)) = true := decide_eq_true hj1
        have hlt' : j < m.length := by rw [← HLM.out]; exact hlt
        have hj2 : (j : Int) < (m.length : Int) := by omega
        have hjd2 : decide ((j : Int) < (m.length : Int)) = true := decide_eq_true hj2
        obtain ⟨b, o, hA, hb, e0, e1⟩ := h1.it j hlt
        obtain ⟨b', o', hA', hb', f0, f1⟩ := h2.it j hlt'
        obtain ⟨⟨k, t⟩, hkm⟩ : ∃ x, l.getD j ((emp, emp) : It) = x := ⟨_, rfl⟩
        obtain ⟨⟨k', t'⟩, hkm'⟩ : ∃ x, m.getD j ((emp, emp) : It) = x := ⟨_, rfl⟩
        rw [hkm] at e0 e1
        rw [hkm'] at f0 f1
        dsimp only at e0 e1 f0 f1
        have hmb := toList_beq t t'
        have hkb := toList_beq k k'
        subst hA hA'
        by_cases hxy : k = k' ∧ t = t'
        · rw [decide_eq_true hxy.1] at hkb
          rw [decide_eq_true hxy.2] at hmb
          have hnx : ∀ i, i < j + 1 → l.getD i ((emp, emp) : It) = m.getD i ((emp, emp) : It) := fun i hi => by
            by_cases e : i = j
            · rw [e, hkm, hkm', hxy.1, hxy.2]
            · exact HLK.out i (by omega)
          have HNX := Lib.hid hnx
          clear hnx hxy hkm hkm'
          go_wp2_with fail
          go_quiet (fail)
          go_wp2
          go_roundw
          case rel => exact ⟨j + 1, _, by go_num, by omega, HNX.out, rfl⟩
          case measure => simp [RowKit.intOf]; omega
        · have hsm : decide (l = m) = false := by
            refine decide_eq_false (fun h => hxy ?_)
            rw [h, hkm'] at hkm
            exact ⟨congrArg Prod.fst hkm.symm, congrArg Prod.snd hkm.symm⟩
          rw [hsm] at HR
          clear hsm hkm hkm'
          by_cases hk : k = k'
          · have hm : ¬ t = t' := fun e => hxy ⟨hk, e⟩
            rw [decide_eq_true hk] at hkb
            rw [decide_eq_false hm] at hmb
            clear hxy hk hm
            go_wp2_with fail
            go_quiet (fail)
            go_wp2_with fail
            first | exact HR.out _ _ rfl | exact HR.out _ _ (World.drewN_drewN _ _ _)
          · rw [decide_eq_false hk] at hkb
            clear hxy hk hmb
            go_wp2_with fail
            go_quiet (fail)
            go_wp2_with fail
            first | exact HR.out _ _ rfl | exact HR.out _ _ (World.drewN_drewN _ _ _)
      · have hje : j = l.length := by omega
        have hj1 : ¬ (j : Int) < (l.length : Int) := by omega
        have hjd : decide ((j : Int) < (l.length : Int)) = false := decide_eq_false hj1
        rw [hje] at HLK
        rw [show decide (l = m) = true from decide_eq_true (list_like HLM.out HLK.out)] at HR
        clear hje
        go_wp2_with fail
        first | exact HR.out _ _ rfl | exact HR.out _ _ (World.drewN_drewN _ _ _)
  · have hlb : ((l.length : Int) != (m.length : Int)) = true := by
      have : ¬ (l.length : Int) = (m.length : Int) := by omega
      simpa using this
    rw [show decide (l = m) = false from decide_eq_false (fun h => hlm (by rw [h]))] at HR
    go_enter Try.func95, Try.ntmps95
    go_wp2_with fail
    exact HR.out _ 0 rfl
set_option maxHeartbeats 2000000 in
set_option maxRecDepth 100000 in
theorem page_Same (g q : PgV) (A1 A2 B1 B2 : Option Addr) (c1 c2 d1 d2 : Nat) (w : World) (h1 : Row w A1 (flat slC g.sl)) (h2 : Row w A2 (flat itC g.it)) (k1 : Row w B1 (flat slC q.sl)) (k2 : Row w B2 (flat itC q.it))
    (hl1 : g.sl.length ≤ 140737488351232) (hl2 : g.it.length ≤ 140737488351232) {R : Ending → World → Prop}
    (hR : ∀ w', Below w.heap.size w w' → R (.returned (.bool (sameR g q))) w') :
    Calls Try.prog 55 #[.agg #[.string g.pre, .bool g.leaf, .slice A1 g.sl.length c1, .slice A2 g.it.length c2], .agg #[.string q.pre, .bool q.leaf, .slice B1 q.sl.length d1, .slice B2 q.it.length d2]] w R := by
  obtain ⟨pre, leaf, sl, it⟩ := g
  obtain ⟨pre', leaf', sl', it'⟩ := q
  dsimp only at h1 h2 k1 k2 hl1 hl2 ⊢
  have HR := Lib.hid hR
  clear hR
  go_enter Try.func55, Try.ntmps55
  go_upto_region 1 with fail
  have hX := (Blk.new w 27 #[.string pre, .bool leaf, .slice A1 sl.length c1, .slice A2 it.length c2]).alloc (.cells #[.string pre', .bool leaf', .slice B1 sl'.length d1, .slice B2 it'.length d2] 27)
  have hY := Blk.new (w.alloc (.cells #[.string pre, .bool leaf, .slice A1 sl.length c1, .slice A2 it.length c2] 27)) 27 #[.string pre', .bool leaf', .slice B1 sl'.length d1, .slice B2 it'.length d2]
  have hb := ((Below.refl w.heap.size w).alloc (Nat.le_refl _) (.cells #[.string pre, .bool leaf, .slice A1 sl.length c1, .slice A2 it.length c2] 27))
  replace hb := hb.alloc hb.size (.cells #[.string pre', .bool leaf', .slice B1 sl'.length d1, .slice B2 it'.length d2] 27)
  replace h1 := h1.below hb (Nat.le_refl _)
  replace h2 := h2.below hb (Nat.le_refl _)
  replace k1 := k1.below hb (Nat.le_refl _)
  replace k2 := k2.below hb (Nat.le_refl _)
  have hyx : (w.alloc (.cells #[.string pre, .bool leaf, .slice A1 sl.length c1, .slice A2 it.length c2] 27)).heap.size = w.heap.size + 1 := by simp
  rw [hyx] at hY
  clear hyx
  generalize ((w.alloc (.cells #[.string pre, .bool leaf, .slice A1 sl.length c1, .slice A2 it.length c2] 27)).alloc (.cells #[.string pre', .bool leaf', .slice B1 sl'.length d1, .slice B2 it'.length d2] 27)) = w1 at *
  have q0 := hX.cell 0
  have q1 := hX.cell 1
  have q2 := hX.cell 2
  have q3 := hX.cell 3
  have y0 := hY.cell 0
  have y1 := hY.cell 1
  have y2 := hY.cell 2
  have y3 := hY.cell 3
  dsimp at q0 q1 q2 q3 y0 y1 y2 y3
  have hpb := toList_beq pre pre'
  by_cases hp : pre = pre'
  · rw [decide_eq_true hp] at hpb
    by_cases hlf : leaf = leaf'
    · have hlb : (leaf == leaf') = true := by simp [hlf]
      have hsm : sameR ⟨pre, leaf, sl, it⟩ ⟨pre', leaf', sl', it'⟩ = (decide (sl = sl') && decide (it = it')) := by
        unfold sameR; simp [hp, hlf]
      rw [hsm] at HR
      have H1 := Lib.hid hsm
      clear hsm hp hlf H1
      go_wp2_with fail
      refine slices_Equal_Slot sl sl' A1 B1 c1 d1 w1 h1 k1 hl1 ?_
      rintro w' n rfl
      replace hX : Blk (w1.drewN n) _ _ _ := hX
      replace hY : Blk (w1.drewN n) _ _ _ := hY
      replace h2 : Row (w1.drewN n) _ _ := h2
      replace k2 : Row (w1.drewN n) _ _ := k2
      replace hb := below_drewN hb n
      clear q0 q1 q2 q3 y0 y1 y2 y3
      generalize w1.drewN n = w2 at *
      have q3 := hX.cell 3
      have y3 := hY.cell 3
      dsimp at q3 y3
      cases hs : decide (sl = sl')
      · rw [hs, Bool.false_and] at HR
        go_wp2_with fail
        exact HR.out _ hb
      · rw [hs, Bool.true_and] at HR
        go_wp2_with fail
        refine slices_Equal_Item it it' A2 B2 c2 d2 w2 h2 k2 hl2 ?_
        rintro w' n rfl
        generalize decide (it = it') = x at *
        cases x
        · go_wp2_with fail
          exact HR.out _ (below_drewN hb n)
        · go_wp2_with fail
          exact HR.out _ (below_drewN hb n)
    · have hlb : (leaf == leaf') = false := by simp [hlf]
      have hsm : sameR ⟨pre, leaf, sl, it⟩ ⟨pre', leaf', sl', it'⟩ = false := by unfold sameR; simp [hlf]
      rw [hsm] at HR
      clear hsm hp hlf
      go_wp2_with fail
      exact HR.out _ hb
  · rw [decide_eq_false hp] at hpb
    have hsm : sameR ⟨pre, leaf, sl, it⟩ ⟨pre', leaf', sl', it'⟩ = false := by unfold sameR; simp [hp]
    rw [hsm] at HR
    clear hsm hp
    go_wp2_with fail
    exact HR.out _ hb
end
end Go.Proofs.Ytokjkpoegcnijaa
