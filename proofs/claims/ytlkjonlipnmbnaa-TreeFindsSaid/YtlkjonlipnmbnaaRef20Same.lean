/- spenceref20.Same, Great. -/
import Derived.Test.YtlkjonlipnmbnaaPageMath
namespace Go.Proofs.Ytlkjonlipnmbnaa
open Go.RowKit Go.Lib
section
def sameR (g q : PgV) : Bool := decide (g.pre = q.pre ∧ g.leaf = q.leaf ∧ g.sl = q.sl ∧ g.it = q.it)
theorem sameR_self (g : PgV) : sameR g g = true := by unfold sameR; simp
theorem toList_beq (a b : ByteArray) : (a.toList == b.toList) = decide (a = b) := by
  rw [Bool.eq_iff_iff]
  simp only [beq_iff_eq, decide_eq_true_eq, ByteArray.toList_eq]
  exact ⟨fun h => ByteArray.ext (Array.toList_inj.1 h), fun h => by rw [h]⟩
theorem list_like {α : Type} {l m : List α} {d : α} (hl : l.length = m.length) (h : ∀ k, k < l.length → l.getD k d = m.getD k d) : l = m := by
  refine List.ext_getElem hl (fun i h1 h2 => ?_)
  have := h i h1
  rwa [getD_at l i d h1, getD_at m i d h2] at this
def SmRel {α : Type} (d : α) (W : World) (l m : List α) (i : Value) (w : World) : Prop :=
  ∃ j n : Nat, i = .int .i64 (j : Int) ∧ j ≤ l.length ∧ (∀ k, k < j → l.getD k d = m.getD k d) ∧ w = W.drewN n


theorem int_beq (a b : Int) : (a == b) = decide (a = b) := by rw [Bool.eq_iff_iff]; simp
set_option maxHeartbeats 2000000 in
set_option maxRecDepth 100000 in
theorem ref20_Same (g q : PgV) (A1 A2 B1 B2 : Option Addr) (c1 c2 d1 d2 : Nat) (w : World) (h1 : Row w A1 (flat slC g.sl)) (h2 : Row w A2 (flat itC g.it)) (k1 : Row w B1 (flat slC q.sl)) (k2 : Row w B2 (flat itC q.it))
    (hl1 : g.sl.length ≤ 140737488351232) (hl2 : g.it.length ≤ 140737488351232) {R : Ending → World → Prop}
    (hR : ∀ w', Below w.heap.size w w' → R (.returned (.bool (sameR g q))) w') :
    Calls Try.prog 14 #[.agg #[.string g.pre, .bool g.leaf, .slice A1 g.sl.length c1, .slice A2 g.it.length c2], .agg #[.string q.pre, .bool q.leaf, .slice B1 q.sl.length d1, .slice B2 q.it.length d2]] w R := by
  obtain ⟨pre, leaf, sl, it⟩ := g
  obtain ⟨pre', leaf', sl', it'⟩ := q
  dsimp only at h1 h2 k1 k2 hl1 hl2 ⊢
  have hfin : ∀ x y, Below w.heap.size w ((w.alloc x).alloc y) := fun x y => (((Ext.refl (fun _ => False) w).alloc x).alloc y).below (Nat.le_refl _) (fun _ _ h => h)
  have HR := Lib.hid hR
  have hbs := toList_beq pre pre'
  by_cases hp : pre = pre'
  · rw [decide_eq_true hp] at hbs
    by_cases hlf : leaf = leaf'
    · subst hlf
      by_cases hs : sl.length = sl'.length
      · have hsb : ((sl.length : Int) != (sl'.length : Int)) = false := by rw [hs]; simp
        have HS := Lib.hid hs
        by_cases hi : it.length = it'.length
        · have hib : ((it.length : Int) != (it'.length : Int)) = false := by rw [hi]; simp
          have HI := Lib.hid hi
          have HP := Lib.hid hp
          clear hR hs hi hp hfin
          have b1 := Blk.new w 27 #[.string pre, .bool leaf, .slice A1 sl.length c1, .slice A2 it.length c2]
          have b1 := b1.alloc (.cells #[.string pre', .bool leaf, .slice B1 sl'.length d1, .slice B2 it'.length d2] 27)
          have b2 := Blk.new (w.alloc (.cells #[.string pre, .bool leaf, .slice A1 sl.length c1, .slice A2 it.length c2] 27)) 27 #[.string pre', .bool leaf, .slice B1 sl'.length d1, .slice B2 it'.length d2]
          rw [show (w.alloc (.cells #[.string pre, .bool leaf, .slice A1 sl.length c1, .slice A2 it.length c2] 27)).heap.size = w.heap.size + 1 by simp] at b2
          have h1 := (h1.alloc (.cells #[.string pre, .bool leaf, .slice A1 sl.length c1, .slice A2 it.length c2] 27)).alloc (.cells #[.string pre', .bool leaf, .slice B1 sl'.length d1, .slice B2 it'.length d2] 27)
          have h2 := (h2.alloc (.cells #[.string pre, .bool leaf, .slice A1 sl.length c1, .slice A2 it.length c2] 27)).alloc (.cells #[.string pre', .bool leaf, .slice B1 sl'.length d1, .slice B2 it'.length d2] 27)
          have k1 := (k1.alloc (.cells #[.string pre, .bool leaf, .slice A1 sl.length c1, .slice A2 it.length c2] 27)).alloc (.cells #[.string pre', .bool leaf, .slice B1 sl'.length d1, .slice B2 it'.length d2] 27)
          have k2 := (k2.alloc (.cells #[.string pre, .bool leaf, .slice A1 sl.length c1, .slice A2 it.length c2] 27)).alloc (.cells #[.string pre', .bool leaf, .slice B1 sl'.length d1, .slice B2 it'.length d2] 27)
          have hx : Ext (fun _ => False) w ((w.alloc (.cells #[.string pre, .bool leaf, .slice A1 sl.length c1, .slice A2 it.length c2] 27)).alloc (.cells #[.string pre', .bool leaf, .slice B1 sl'.length d1, .slice B2 it'.length d2] 27)) := ((Ext.refl _ _).alloc _).alloc _
          go_enter Try.func14, Try.ntmps14
          go_upto_region 1 with fail
          generalize hw2 : (w.alloc (.cells #[.string pre, .bool leaf, .slice A1 sl.length c1, .slice A2 it.length c2] 27)).alloc (.cells #[.string pre', .bool leaf, .slice B1 sl'.length d1, .slice B2 it'.length d2] 27) = w2 at *
          generalize hg1 : w.heap.size = g1 at *
          clear hw2
          have p0 := b1.cell 0
          have p1 := b1.cell 1
          have p2 := b1.cell 2
          have p3 := b1.cell 3
          have q0 := b2.cell 0
          have q1 := b2.cell 1
          have q2 := b2.cell 2
          have q3 := b2.cell 3
          dsimp at p0 p1 p2 p3 q0 q1 q2 q3
          cases leaf
          · go_wp2_with fail
            clear hsb hib hbs
            go_loopw [5] (SmRel (0, emp) w2 sl sl') (fun i _ => (sl).length - (RowKit.intOf i).toNat)
            case atStart => exact ⟨0, 0, rfl, Nat.zero_le _, fun k h => absurd h (by omega), rfl⟩
            case round =>
              obtain ⟨j, n, rfl, hj, hlk, rfl⟩ := hrel
              have hj0 : (0 : Int) ≤ (j : Int) := Int.natCast_nonneg _
              have HLK := Lib.hid hlk
              clear hlk
              by_cases hlt : j < (sl).length
              · have hj1 : (j : Int) < ((sl).length : Int) := by omega
                have hjd : decide (j < (sl).length) = true := by simpa using hlt
                have hlt' : j < (sl').length := by rw [← (HS).out]; exact hlt
                have hj2 : (j : Int) < ((sl').length : Int) := by omega
                have hjd2 : decide (j < (sl').length) = true := by simpa using hlt'
                obtain ⟨b, o, hA, hb, e0, e1⟩ := (h1).sl j hlt
                obtain ⟨b', o', hA', hb', f0, f1⟩ := (k1).sl j hlt'
                obtain ⟨⟨k, m⟩, hkm⟩ : ∃ x, (sl).getD j (0, emp) = x := ⟨_, rfl⟩
                obtain ⟨⟨k', m'⟩, hkm'⟩ : ∃ x, (sl').getD j (0, emp) = x := ⟨_, rfl⟩
                rw [hkm] at e0 e1
                rw [hkm'] at f0 f1
                dsimp only at e0 e1 f0 f1
                have hmb := toList_beq m m'
                have hkb := int_beq k k'
                subst hA hA'
                by_cases hxy : k = k' ∧ m = m'
                · rw [decide_eq_true hxy.1] at hkb
                  rw [decide_eq_true hxy.2] at hmb
                  have hnx : ∀ i, i < j + 1 → (sl).getD i (0, emp) = (sl').getD i (0, emp) := fun i hi => by
                    by_cases e : i = j
                    · rw [e, hkm, hkm', hxy.1, hxy.2]
                    · exact HLK.out i (by omega)
                  have HNX := Lib.hid hnx
                  clear hnx hxy hkm hkm'
                  go_wp2_with fail
                  go_quiet (fail)
                  go_wp2
                  go_roundw
                  case rel => exact ⟨j + 1, _, by go_num, by omega, HNX.out, rfl⟩
                  case measure => simp [RowKit.intOf]; omega
                · have hsm : sameR ⟨pre, false, sl, it⟩ ⟨pre', false, sl', it'⟩ = false := by
                    unfold sameR
                    refine decide_eq_false (fun h => hxy ?_)
                    have h3 : (sl).getD j (0, emp) = (sl').getD j (0, emp) := by rw [show sl = sl' from h.2.2.1]
                    rw [hkm, hkm'] at h3
                    exact ⟨congrArg Prod.fst h3, congrArg Prod.snd h3⟩
                  rw [hsm] at HR
                  clear hsm hkm hkm'
                  by_cases hk : k = k'
                  · have hm : ¬ m = m' := fun e => hxy ⟨hk, e⟩
                    rw [decide_eq_true hk] at hkb
                    rw [decide_eq_false hm] at hmb
                    clear hxy hk hm
                    go_wp2_with fail
                    go_quiet (fail)
                    go_wp2_with fail
                    exact HR.out _ (((hx.drewN _).drewN _).below (Nat.le_of_eq hg1.symm) (fun _ _ h => h))
                  · rw [decide_eq_false hk] at hkb
                    clear hxy hk hmb
                    go_wp2_with fail
                    go_quiet (fail)
                    go_wp2_with fail
                    exact HR.out _ (((hx.drewN _).drewN _).below (Nat.le_of_eq hg1.symm) (fun _ _ h => h))
              · have hje : j = (sl).length := by omega
                have hj1 : ¬ (j : Int) < ((sl).length : Int) := by omega
                have hjd : decide (j < (sl).length) = false := by simpa using hlt
                rw [hje] at HLK
                clear hje
                go_wp2_with fail
                have HLK1 := HLK
                have hx' : Ext (fun _ => False) w (w2.drewN n) := hx.drewN n
                have h2' : Row (w2.drewN n) A2 (flat itC it) := h2
                have k2' : Row (w2.drewN n) B2 (flat itC it') := k2
                have p3' : (w2.drewN n).cell? ⟨g1, 3, none⟩ = some (.slice A2 it.length c2) := p3
                have q3' : (w2.drewN n).cell? ⟨g1 + 1, 3, none⟩ = some (.slice B2 it'.length d2) := q3
                clear HLK hj0 hj hlt hj1 hjd h2 k2 p3 q3 p0 p1 p2 q0 q1 q2 b1 b2 h1 k1 hx
                generalize w2.drewN n = w3 at *
                go_loopw [6] (SmRel (emp, emp) w3 it it') (fun i _ => (it).length - (RowKit.intOf i).toNat)
                case atStart => exact ⟨0, 0, rfl, Nat.zero_le _, fun k h => absurd h (by omega), rfl⟩
                case round =>
                  obtain ⟨j, n, rfl, hj, hlk, rfl⟩ := hrel
                  have hj0 : (0 : Int) ≤ (j : Int) := Int.natCast_nonneg _
                  have HLK := Lib.hid hlk
                  clear hlk
                  by_cases hlt : j < (it).length
                  · have hj1 : (j : Int) < ((it).length : Int) := by omega
                    have hjd : decide (j < (it).length) = true := by simpa using hlt
                    have hlt' : j < (it').length := by rw [← (HI).out]; exact hlt
                    have hj2 : (j : Int) < ((it').length : Int) := by omega
                    have hjd2 : decide (j < (it').length) = true := by simpa using hlt'
                    obtain ⟨b, o, hA, hb, e0, e1⟩ := (h2').it j hlt
                    obtain ⟨b', o', hA', hb', f0, f1⟩ := (k2').it j hlt'
                    obtain ⟨⟨k, m⟩, hkm⟩ : ∃ x, (it).getD j (emp, emp) = x := ⟨_, rfl⟩
                    obtain ⟨⟨k', m'⟩, hkm'⟩ : ∃ x, (it').getD j (emp, emp) = x := ⟨_, rfl⟩
                    rw [hkm] at e0 e1
                    rw [hkm'] at f0 f1
                    dsimp only at e0 e1 f0 f1
                    have hmb := toList_beq m m'
                    have hkb := toList_beq k k'
                    subst hA hA'
                    by_cases hxy : k = k' ∧ m = m'
                    · rw [decide_eq_true hxy.1] at hkb
                      rw [decide_eq_true hxy.2] at hmb
                      have hnx : ∀ i, i < j + 1 → (it).getD i (emp, emp) = (it').getD i (emp, emp) := fun i hi => by
                        by_cases e : i = j
                        · rw [e, hkm, hkm', hxy.1, hxy.2]
                        · exact HLK.out i (by omega)
                      have HNX := Lib.hid hnx
                      clear hnx hxy hkm hkm'
                      go_wp2_with fail
                      go_quiet (fail)
                      go_wp2
                      go_roundw
                      case rel => exact ⟨j + 1, _, by go_num, by omega, HNX.out, rfl⟩
                      case measure => simp [RowKit.intOf]; omega
                    · have hsm : sameR ⟨pre, false, sl, it⟩ ⟨pre', false, sl', it'⟩ = false := by
                        unfold sameR
                        refine decide_eq_false (fun h => hxy ?_)
                        have h3 : (it).getD j (emp, emp) = (it').getD j (emp, emp) := by rw [show it = it' from h.2.2.2]
                        rw [hkm, hkm'] at h3
                        exact ⟨congrArg Prod.fst h3, congrArg Prod.snd h3⟩
                      rw [hsm] at HR
                      clear hsm hkm hkm'
                      by_cases hk : k = k'
                      · have hm : ¬ m = m' := fun e => hxy ⟨hk, e⟩
                        rw [decide_eq_true hk] at hkb
                        rw [decide_eq_false hm] at hmb
                        clear hxy hk hm
                        go_wp2_with fail
                        go_quiet (fail)
                        go_wp2_with fail
                        exact HR.out _ (((hx'.drewN _).drewN _).below (Nat.le_of_eq hg1.symm) (fun _ _ h => h))
                      · rw [decide_eq_false hk] at hkb
                        clear hxy hk hmb
                        go_wp2_with fail
                        go_quiet (fail)
                        go_wp2_with fail
                        exact HR.out _ (((hx'.drewN _).drewN _).below (Nat.le_of_eq hg1.symm) (fun _ _ h => h))
                  · have hje : j = (it).length := by omega
                    have hj1 : ¬ (j : Int) < ((it).length : Int) := by omega
                    have hjd : decide (j < (it).length) = false := by simpa using hlt
                    rw [hje] at HLK
                    clear hje
                    go_wp2_with fail
                    have hsm : sameR ⟨pre, false, sl, it⟩ ⟨pre', false, sl', it'⟩ = true := by
                      unfold sameR
                      exact decide_eq_true ⟨HP.out, rfl, list_like HS.out HLK1.out, list_like HI.out HLK.out⟩
                    rw [hsm] at HR
                    exact HR.out _ ((hx'.drewN _).below (Nat.le_of_eq hg1.symm) (fun _ _ h => h))
          · go_wp2_with fail
            clear hsb hib hbs
            go_loopw [5] (SmRel (0, emp) w2 sl sl') (fun i _ => (sl).length - (RowKit.intOf i).toNat)
            case atStart => exact ⟨0, 0, rfl, Nat.zero_le _, fun k h => absurd h (by omega), rfl⟩
            case round =>
              obtain ⟨j, n, rfl, hj, hlk, rfl⟩ := hrel
              have hj0 : (0 : Int) ≤ (j : Int) := Int.natCast_nonneg _
              have HLK := Lib.hid hlk
              clear hlk
              by_cases hlt : j < (sl).length
              · have hj1 : (j : Int) < ((sl).length : Int) := by omega
                have hjd : decide (j < (sl).length) = true := by simpa using hlt
                have hlt' : j < (sl').length := by rw [← (HS).out]; exact hlt
                have hj2 : (j : Int) < ((sl').length : Int) := by omega
                have hjd2 : decide (j < (sl').length) = true := by simpa using hlt'
                obtain ⟨b, o, hA, hb, e0, e1⟩ := (h1).sl j hlt
                obtain ⟨b', o', hA', hb', f0, f1⟩ := (k1).sl j hlt'
                obtain ⟨⟨k, m⟩, hkm⟩ : ∃ x, (sl).getD j (0, emp) = x := ⟨_, rfl⟩
                obtain ⟨⟨k', m'⟩, hkm'⟩ : ∃ x, (sl').getD j (0, emp) = x := ⟨_, rfl⟩
                rw [hkm] at e0 e1
                rw [hkm'] at f0 f1
                dsimp only at e0 e1 f0 f1
                have hmb := toList_beq m m'
                have hkb := int_beq k k'
                subst hA hA'
                by_cases hxy : k = k' ∧ m = m'
                · rw [decide_eq_true hxy.1] at hkb
                  rw [decide_eq_true hxy.2] at hmb
                  have hnx : ∀ i, i < j + 1 → (sl).getD i (0, emp) = (sl').getD i (0, emp) := fun i hi => by
                    by_cases e : i = j
                    · rw [e, hkm, hkm', hxy.1, hxy.2]
                    · exact HLK.out i (by omega)
                  have HNX := Lib.hid hnx
                  clear hnx hxy hkm hkm'
                  go_wp2_with fail
                  go_quiet (fail)
                  go_wp2
                  go_roundw
                  case rel => exact ⟨j + 1, _, by go_num, by omega, HNX.out, rfl⟩
                  case measure => simp [RowKit.intOf]; omega
                · have hsm : sameR ⟨pre, true, sl, it⟩ ⟨pre', true, sl', it'⟩ = false := by
                    unfold sameR
                    refine decide_eq_false (fun h => hxy ?_)
                    have h3 : (sl).getD j (0, emp) = (sl').getD j (0, emp) := by rw [show sl = sl' from h.2.2.1]
                    rw [hkm, hkm'] at h3
                    exact ⟨congrArg Prod.fst h3, congrArg Prod.snd h3⟩
                  rw [hsm] at HR
                  clear hsm hkm hkm'
                  by_cases hk : k = k'
                  · have hm : ¬ m = m' := fun e => hxy ⟨hk, e⟩
                    rw [decide_eq_true hk] at hkb
                    rw [decide_eq_false hm] at hmb
                    clear hxy hk hm
                    go_wp2_with fail
                    go_quiet (fail)
                    go_wp2_with fail
                    exact HR.out _ (((hx.drewN _).drewN _).below (Nat.le_of_eq hg1.symm) (fun _ _ h => h))
                  · rw [decide_eq_false hk] at hkb
                    clear hxy hk hmb
                    go_wp2_with fail
                    go_quiet (fail)
                    go_wp2_with fail
                    exact HR.out _ (((hx.drewN _).drewN _).below (Nat.le_of_eq hg1.symm) (fun _ _ h => h))
              · have hje : j = (sl).length := by omega
                have hj1 : ¬ (j : Int) < ((sl).length : Int) := by omega
                have hjd : decide (j < (sl).length) = false := by simpa using hlt
                rw [hje] at HLK
                clear hje
                go_wp2_with fail
                have HLK1 := HLK
                have hx' : Ext (fun _ => False) w (w2.drewN n) := hx.drewN n
                have h2' : Row (w2.drewN n) A2 (flat itC it) := h2
                have k2' : Row (w2.drewN n) B2 (flat itC it') := k2
                have p3' : (w2.drewN n).cell? ⟨g1, 3, none⟩ = some (.slice A2 it.length c2) := p3
                have q3' : (w2.drewN n).cell? ⟨g1 + 1, 3, none⟩ = some (.slice B2 it'.length d2) := q3
                clear HLK hj0 hj hlt hj1 hjd h2 k2 p3 q3 p0 p1 p2 q0 q1 q2 b1 b2 h1 k1 hx
                generalize w2.drewN n = w3 at *
                go_loopw [6] (SmRel (emp, emp) w3 it it') (fun i _ => (it).length - (RowKit.intOf i).toNat)
                case atStart => exact ⟨0, 0, rfl, Nat.zero_le _, fun k h => absurd h (by omega), rfl⟩
                case round =>
                  obtain ⟨j, n, rfl, hj, hlk, rfl⟩ := hrel
                  have hj0 : (0 : Int) ≤ (j : Int) := Int.natCast_nonneg _
                  have HLK := Lib.hid hlk
                  clear hlk
                  by_cases hlt : j < (it).length
                  · have hj1 : (j : Int) < ((it).length : Int) := by omega
                    have hjd : decide (j < (it).length) = true := by simpa using hlt
                    have hlt' : j < (it').length := by rw [← (HI).out]; exact hlt
                    have hj2 : (j : Int) < ((it').length : Int) := by omega
                    have hjd2 : decide (j < (it').length) = true := by simpa using hlt'
                    obtain ⟨b, o, hA, hb, e0, e1⟩ := (h2').it j hlt
                    obtain ⟨b', o', hA', hb', f0, f1⟩ := (k2').it j hlt'
                    obtain ⟨⟨k, m⟩, hkm⟩ : ∃ x, (it).getD j (emp, emp) = x := ⟨_, rfl⟩
                    obtain ⟨⟨k', m'⟩, hkm'⟩ : ∃ x, (it').getD j (emp, emp) = x := ⟨_, rfl⟩
                    rw [hkm] at e0 e1
                    rw [hkm'] at f0 f1
                    dsimp only at e0 e1 f0 f1
                    have hmb := toList_beq m m'
                    have hkb := toList_beq k k'
                    subst hA hA'
                    by_cases hxy : k = k' ∧ m = m'
                    · rw [decide_eq_true hxy.1] at hkb
                      rw [decide_eq_true hxy.2] at hmb
                      have hnx : ∀ i, i < j + 1 → (it).getD i (emp, emp) = (it').getD i (emp, emp) := fun i hi => by
                        by_cases e : i = j
                        · rw [e, hkm, hkm', hxy.1, hxy.2]
                        · exact HLK.out i (by omega)
                      have HNX := Lib.hid hnx
                      clear hnx hxy hkm hkm'
                      go_wp2_with fail
                      go_quiet (fail)
                      go_wp2
                      go_roundw
                      case rel => exact ⟨j + 1, _, by go_num, by omega, HNX.out, rfl⟩
                      case measure => simp [RowKit.intOf]; omega
                    · have hsm : sameR ⟨pre, true, sl, it⟩ ⟨pre', true, sl', it'⟩ = false := by
                        unfold sameR
                        refine decide_eq_false (fun h => hxy ?_)
                        have h3 : (it).getD j (emp, emp) = (it').getD j (emp, emp) := by rw [show it = it' from h.2.2.2]
                        rw [hkm, hkm'] at h3
                        exact ⟨congrArg Prod.fst h3, congrArg Prod.snd h3⟩
                      rw [hsm] at HR
                      clear hsm hkm hkm'
                      by_cases hk : k = k'
                      · have hm : ¬ m = m' := fun e => hxy ⟨hk, e⟩
                        rw [decide_eq_true hk] at hkb
                        rw [decide_eq_false hm] at hmb
                        clear hxy hk hm
                        go_wp2_with fail
                        go_quiet (fail)
                        go_wp2_with fail
                        exact HR.out _ (((hx'.drewN _).drewN _).below (Nat.le_of_eq hg1.symm) (fun _ _ h => h))
                      · rw [decide_eq_false hk] at hkb
                        clear hxy hk hmb
                        go_wp2_with fail
                        go_quiet (fail)
                        go_wp2_with fail
                        exact HR.out _ (((hx'.drewN _).drewN _).below (Nat.le_of_eq hg1.symm) (fun _ _ h => h))
                  · have hje : j = (it).length := by omega
                    have hj1 : ¬ (j : Int) < ((it).length : Int) := by omega
                    have hjd : decide (j < (it).length) = false := by simpa using hlt
                    rw [hje] at HLK
                    clear hje
                    go_wp2_with fail
                    have hsm : sameR ⟨pre, true, sl, it⟩ ⟨pre', true, sl', it'⟩ = true := by
                      unfold sameR
                      exact decide_eq_true ⟨HP.out, rfl, list_like HS.out HLK1.out, list_like HI.out HLK.out⟩
                    rw [hsm] at HR
                    exact HR.out _ ((hx'.drewN _).below (Nat.le_of_eq hg1.symm) (fun _ _ h => h))
        · have hib : ((it.length : Int) != (it'.length : Int)) = true := by
            have : ¬ (it.length : Int) = (it'.length : Int) := by omega
            simpa using this
          have hsm : sameR ⟨pre, leaf, sl, it⟩ ⟨pre', leaf, sl', it'⟩ = false := by
            unfold sameR
            exact decide_eq_false (fun h => hi (by rw [show it = it' from h.2.2.2]))
          rw [hsm] at HR
          clear hR hsm hs hi hp
          cases leaf
          all_goals
            go_enter Try.func14, Try.ntmps14
            go_wp2_with fail
            exact HR.out _ (hfin _ _)
      · have hsb : ((sl.length : Int) != (sl'.length : Int)) = true := by
          have : ¬ (sl.length : Int) = (sl'.length : Int) := by omega
          simpa using this
        have hsm : sameR ⟨pre, leaf, sl, it⟩ ⟨pre', leaf, sl', it'⟩ = false := by
          unfold sameR
          exact decide_eq_false (fun h => hs (by rw [show sl = sl' from h.2.2.1]))
        rw [hsm] at HR
        clear hR hsm hs hp
        cases leaf
        all_goals
          go_enter Try.func14, Try.ntmps14
          go_wp2_with fail
          exact HR.out _ (hfin _ _)
    · have hsm : sameR ⟨pre, leaf, sl, it⟩ ⟨pre', leaf', sl', it'⟩ = false := by
        unfold sameR
        exact decide_eq_false (fun h => hlf h.2.1)
      rw [hsm] at HR
      clear hR hsm hp
      cases leaf <;> cases leaf' <;> (try exact absurd rfl hlf)
      all_goals
        clear hlf
        go_enter Try.func14, Try.ntmps14
        go_wp2_with fail
        exact HR.out _ (hfin _ _)
  · rw [decide_eq_false hp] at hbs
    have hsm : sameR ⟨pre, leaf, sl, it⟩ ⟨pre', leaf', sl', it'⟩ = false := by
      unfold sameR
      exact decide_eq_false (fun h => hp h.1)
    rw [hsm] at HR
    clear hR hsm hp
    go_enter Try.func14, Try.ntmps14
    go_wp2_with fail
    exact HR.out _ (hfin _ _)
end
end Go.Proofs.Ytlkjonlipnmbnaa
