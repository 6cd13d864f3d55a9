/- page.Check. -/
import Derived.Test.YtlkjonlipnmbnaaPageItem
import Derived.Deep.RegionHeld
namespace Go.Proofs.Ytlkjonlipnmbnaa
open Go.RowKit Go.Lib
section
def ChkI (W : World) (pre : ByteArray) (l : List It) (last i : Value) (w : World) : Prop :=
  ∃ j : Nat, i = .int .i64 (j : Int) ∧ last = .string (lastK l j) ∧ j ≤ l.length ∧ firstErr (itF pre l) j = 0 ∧ Ext (fun _ => False) W w
def ChkS (W : World) (l : List Sl) (i : Value) (w : World) : Prop :=
  ∃ j : Nat, i = .int .i64 (j : Int) ∧ j ≤ l.length ∧ firstErr (slF l) j = 0 ∧ Ext (fun _ => False) W w
theorem lastK_succ (l : List It) (j : Nat) : lastK l (j + 1) = (l.getD j (emp, emp)).1 := by unfold lastK; rw [if_neg (by omega), Nat.add_sub_cancel]


set_option maxHeartbeats 2000000 in
set_option maxRecDepth 100000 in
theorem page_Check (g : PgV) (A1 A2 : Option Addr) (c1 c2 : Nat) (w : World) (h1 : Row w A1 (flat slC g.sl)) (h2 : Row w A2 (flat itC g.it)) (hl1 : g.sl.length ≤ 140737488351232) (hl2 : g.it.length ≤ 140737488351232) {R : Ending → World → Prop}
    (hR : ∀ w', Below w.heap.size w w' → R (.returned (.int .i64 (checkR g))) w') :
    Calls Try.prog 55 #[.agg #[.string g.pre, .bool g.leaf, .slice A1 g.sl.length c1, .slice A2 g.it.length c2]] w R := by
  obtain ⟨pre, leaf, sl, it⟩ := g
  dsimp only at h1 h2 hl1 hl2 ⊢
  have hx0 : Ext (fun _ => False) w (w.alloc (.cells #[.string pre, .bool leaf, .slice A1 sl.length c1, .slice A2 it.length c2] 27)) := (Ext.refl _ _).alloc _
  have HB := Blk.new w 27 #[.string pre, .bool leaf, .slice A1 sl.length c1, .slice A2 it.length c2]
  have H1 := h1.alloc (.cells #[.string pre, .bool leaf, .slice A1 sl.length c1, .slice A2 it.length c2] 27)
  have H2 := h2.alloc (.cells #[.string pre, .bool leaf, .slice A1 sl.length c1, .slice A2 it.length c2] 27)
  have HR := Lib.hid hR
  clear hR h1 h2
  have hs1 : (0 : Int) ≤ (sl.length : Int) := Int.natCast_nonneg _
  have hs2 : (0 : Int) ≤ (it.length : Int) := Int.natCast_nonneg _
  by_cases hp : 31 < pre.size
  · have hpi : (31 : Int) < (pre.size : Int) := by omega
    have he : checkR ⟨pre, leaf, sl, it⟩ = 3 := by unfold checkR checkA; simp [hp]
    rw [he] at HR
    go_enter Try.func55, Try.ntmps55
    go_wp2_with fail
    exact HR.out _ (((Ext.refl (fun _ => False) w).alloc _).below (Nat.le_refl _) (fun _ _ h => h))
  have hpi : ¬ (31 : Int) < (pre.size : Int) := by omega
  have hpd : decide ((31 : Int) < (pre.size : Int)) = false := decide_eq_false hpi
  cases leaf
  · by_cases hi : 0 < it.length
    · have hii : (0 : Int) < (it.length : Int) := by omega
      have he : checkR ⟨pre, false, sl, it⟩ = 1 := by unfold checkR checkA; simp [hp, hi]
      rw [he] at HR
      go_enter Try.func55, Try.ntmps55
      go_wp2_with fail
      exact HR.out _ (((Ext.refl (fun _ => False) w).alloc _).below (Nat.le_refl _) (fun _ _ h => h))
    have hii : ¬ (0 : Int) < (it.length : Int) := by omega
    have hid : decide ((0 : Int) < (it.length : Int)) = false := decide_eq_false hii
    by_cases hs : 256 < sl.length
    · have hsi : (256 : Int) < (sl.length : Int) := by omega
      have he : checkR ⟨pre, false, sl, it⟩ = 3 := by unfold checkR checkA; simp [hp, hi, hs]
      rw [he] at HR
      go_enter Try.func55, Try.ntmps55
      go_wp2_with fail
      exact HR.out _ (((Ext.refl (fun _ => False) w).alloc _).below (Nat.le_refl _) (fun _ _ h => h))
    have hsi : ¬ (256 : Int) < (sl.length : Int) := by omega
    have hsd : decide ((256 : Int) < (sl.length : Int)) = false := decide_eq_false hsi
    by_cases hz : sl.length = 0
    · have hzi : ((sl.length : Int) == 0) = true := by simpa using hz
      have he : checkR ⟨pre, false, sl, it⟩ = 7 := by unfold checkR checkA; simp [hp, hi, hz]
      rw [he] at HR
      go_enter Try.func55, Try.ntmps55
      go_wp2_with fail
      exact HR.out _ (((Ext.refl (fun _ => False) w).alloc _).below (Nat.le_refl _) (fun _ _ h => h))
    have hzi : ((sl.length : Int) == 0) = false := by simpa using hz
    have hca : checkA ⟨pre, false, sl, it⟩ = 0 := by unfold checkA; simp [hp, hi, hs, hz]
    have HCA := Lib.hid hca
    clear hca
    go_enter Try.func55, Try.ntmps55
    go_wp2_with fail
    generalize hw1 : w.alloc (.cells #[.string pre, .bool false, .slice A1 sl.length c1, .slice A2 it.length c2] 27) = w1 at *
    generalize hbk : w.heap.size = bp at *
    have HBP := HB
    clear HB hw1 H2
    have hie : it.length = 0 := by omega
    have hfi : firstErr (itF pre it) it.length = 0 := by rw [hie]; rfl
    have hcr : checkR ⟨pre, false, sl, it⟩ = firstErr (slF sl) sl.length := by unfold checkR; rw [if_neg (fun h => h HCA.out), if_neg (fun h => h hfi)]
    rw [hcr] at HR
    clear hcr HCA hfi hi hs hsi hsd hz hp hpi hpd hie
    go_loopw [3, 67] (ChkI w1 pre it) (fun _ i _ => it.length - (RowKit.intOf i).toNat)
    case atStart => exact ⟨0, rfl, rfl, Nat.zero_le _, rfl, Ext.refl _ _⟩
    case round =>
      obtain ⟨i0, rfl, rfl, hj, hfe, hx⟩ := hrel
      have hi0 : (0 : Int) ≤ (i0 : Int) := Int.natCast_nonneg _
      have hi1 : ¬ (i0 : Int) < (it.length : Int) := by omega
      have hi2 : decide ((i0 : Int) < (it.length : Int)) = false := decide_eq_false hi1
      have hi3 : ¬ i0 < it.length := by omega
      clear hj hfe hii hid
      have hbp := HBP.ext hx id
      have p2 := hbp.cell 2
      dsimp at p2
      clear hbp
      go_wp2_with fail
      clear hi1 hi2 hi3 p2
      go_loopw [88] (ChkS w1 sl) (fun i _ => sl.length - (RowKit.intOf i).toNat)
      case atStart => exact ⟨0, rfl, Nat.zero_le _, rfl, hx⟩
      case round =>
        obtain ⟨j, rfl, hj, hfe, hx⟩ := hrel
        have hj0 : (0 : Int) ≤ (j : Int) := Int.natCast_nonneg _
        by_cases hlt : j < sl.length
        · have hj1 : (j : Int) < (sl.length : Int) := by omega
          have hjd : decide (j < sl.length) = true := by simpa using hlt
          have hrw := H1.ext hx (fun _ _ _ => id)
          obtain ⟨b, o, rfl, hb, d0, d1⟩ := hrw.sl j hlt
          have hbp := HBP.ext hx id
          have p2 := hbp.cell 2
          dsimp at p2
          obtain ⟨⟨k, m⟩, hkm⟩ : ∃ x, sl.getD j (0, emp) = x := ⟨_, rfl⟩
          rw [hkm] at d0 d1
          dsimp only at d0 d1
          clear hrw hbp
          have hxa := hx.alloc (.cells #[.int .u8 k, .string m] 33)
          have hba := Blk.new wr 33 #[.int .u8 k, .string m]
          have q0 := hba.cell 0
          have q1 := hba.cell 1
          dsimp at q0 q1
          clear hba
          by_cases hjz : j = 0
          · subst hjz
            rw [Nat.zero_mul, Nat.add_zero] at d0 d1
            have hslf : slF sl 0 = if m.size ≠ 32 then 1 else 0 := by unfold slF; rw [hkm, if_neg (by omega)]
            have HS2 := Lib.hid hslf
            have HFE := Lib.hid hfe
            clear hslf hfe hkm
            go_wp2_with fail
            go_quiet (fail)
            go_wp2_with fail
            refine (digest_Right m _).mono ?_
            rintro e w' ⟨rfl, rfl⟩
            have hxd := hxa.drewN nq
            by_cases hm : m.size = 32
            · have hmd : decide (m.size = 32) = true := decide_eq_true hm
              rw [hmd]
              have hnx : firstErr (slF sl) (0 + 1) = 0 := firstErr_step HFE.out (by rw [HS2.out, if_neg (fun h => h hm)])
              have HNX := Lib.hid hnx
              clear hmd hnx
              go_wp2_with fail
              go_wp2
              go_roundw
              case rel => exact ⟨0 + 1, by go_num, by omega, HNX.out, hxd⟩
              case measure => simp [RowKit.intOf]; omega
            · have hmd : decide (m.size = 32) = false := decide_eq_false hm
              rw [hmd]
              have hst : firstErr (slF sl) sl.length = 1 := by rw [firstErr_stop HFE.out (by rw [HS2.out, if_pos hm]; decide) sl.length hlt, HS2.out, if_pos hm]
              rw [hst] at HR
              clear hmd hst
              go_wp2_with fail
              exact HR.out _ ((hx0.trans hxd (fun _ _ h => h)).below (Nat.le_of_eq hbk.symm) (fun _ _ h => h))
          · have hjp : (0 : Int) < (j : Int) := by omega
            have hjp1 : 0 < j := by omega
            have hjp2 : decide (0 < j) = true := decide_eq_true hjp1
            have hjp3 : decide ((0 : Int) < (j : Int)) = true := decide_eq_true hjp
            have hjw : wrap64 ((j : Int) - 1) = ((j - 1 : Nat) : Int) := by
              have e : (j : Int) - 1 = ((j - 1 : Nat) : Int) := by omega
              rw [e]; unfold wrap64; omega
            have hjl : ((j - 1 : Nat) : Int) < (sl.length : Int) := by omega
            have hjn : (0 : Int) ≤ ((j - 1 : Nat) : Int) := Int.natCast_nonneg _
            have hrw := H1.ext hx (fun _ _ _ => id)
            obtain ⟨b', o', he', hb', e0, e1⟩ := hrw.sl (j - 1) (by omega)
            cases he'
            obtain ⟨⟨k', m'⟩, hkm'⟩ : ∃ x, sl.getD (j - 1) (0, emp) = x := ⟨_, rfl⟩
            rw [hkm'] at e0 e1
            dsimp only at e0 e1
            have e0' : ∀ x, (wr.alloc x).cell? ⟨b, o + (j - 1) * 2, none⟩ = some (.int .u8 k') := fun x => (World.cell?_alloc_some wr _ x (by rw [e0]; rfl)).trans e0
            have e1' : ∀ x, (wr.alloc x).cell? ⟨b, o + (j - 1) * 2 + 1, none⟩ = some (.string m') := fun x => (World.cell?_alloc_some wr _ x (by rw [e1]; rfl)).trans e1
            have p2' : ∀ x, (wr.alloc x).cell? ⟨bp, 2, none⟩ = some (.slice (some ⟨b, o, none⟩) sl.length c1) := fun x => (World.cell?_alloc_some wr _ x (by rw [p2]; rfl)).trans p2
            have hslf : slF sl j = if k ≤ k' then 6 else if m.size ≠ 32 then 1 else 0 := by
              unfold slF; rw [hkm, hkm']
              by_cases c : k ≤ k'
              · rw [if_pos ⟨by omega, c⟩, if_pos c]
              · rw [if_neg (fun h => c h.2), if_neg c]
            have HSLF := Lib.hid hslf
            have HFE := Lib.hid hfe
            clear hslf hfe hkm hkm' hrw
            by_cases hkk : k ≤ k'
            · have hkd : decide (k ≤ k') = true := decide_eq_true hkk
              go_wp2_with fail
              go_quiet (fail)
              have hst : firstErr (slF sl) sl.length = 6 := by rw [firstErr_stop HFE.out (by rw [HSLF.out, if_pos hkk]; decide) sl.length hlt, HSLF.out, if_pos hkk]
              rw [hst] at HR
              go_wp2_with fail
              exact HR.out _ ((hx0.trans (hxa.drewN nq) (fun _ _ h => h)).below (Nat.le_of_eq hbk.symm) (fun _ _ h => h))
            · have hkd : decide (k ≤ k') = false := decide_eq_false hkk
              have hs2 := HSLF.out
              rw [if_neg hkk] at hs2
              have HS2 := Lib.hid hs2
              clear hs2 HSLF
              go_wp2_with fail
              go_quiet (fail)
              go_wp2_with fail
              refine (digest_Right m _).mono ?_
              rintro e w' ⟨rfl, rfl⟩
              have hxd := hxa.drewN nq
              by_cases hm : m.size = 32
              · have hmd : decide (m.size = 32) = true := decide_eq_true hm
                rw [hmd]
                have hnx : firstErr (slF sl) (j + 1) = 0 := firstErr_step HFE.out (by rw [HS2.out, if_neg (fun h => h hm)])
                have HNX := Lib.hid hnx
                clear hmd hnx
                go_wp2_with fail
                go_wp2
                go_roundw
                case rel => exact ⟨j + 1, by go_num, by omega, HNX.out, hxd⟩
                case measure => simp [RowKit.intOf]; omega
              · have hmd : decide (m.size = 32) = false := decide_eq_false hm
                rw [hmd]
                have hst : firstErr (slF sl) sl.length = 1 := by rw [firstErr_stop HFE.out (by rw [HS2.out, if_pos hm]; decide) sl.length hlt, HS2.out, if_pos hm]
                rw [hst] at HR
                clear hmd hst
                go_wp2_with fail
                exact HR.out _ ((hx0.trans hxd (fun _ _ h => h)).below (Nat.le_of_eq hbk.symm) (fun _ _ h => h))
        · have hje : j = sl.length := by omega
          have hj1 : ¬ (j : Int) < (sl.length : Int) := by omega
          have hjd : decide (j < sl.length) = false := by simpa using hlt
          rw [hje] at hfe
          rw [hfe] at HR
          clear hje hfe
          go_wp2_with fail
          exact HR.out _ ((hx0.trans hx (fun _ _ h => h)).below (Nat.le_of_eq hbk.symm) (fun _ _ h => h))
  · by_cases hs : 0 < sl.length
    · have hsi : (0 : Int) < (sl.length : Int) := by omega
      have he : checkR ⟨pre, true, sl, it⟩ = 1 := by unfold checkR checkA; simp [hp, hs]
      rw [he] at HR
      go_enter Try.func55, Try.ntmps55
      go_wp2_with fail
      exact HR.out _ (((Ext.refl (fun _ => False) w).alloc _).below (Nat.le_refl _) (fun _ _ h => h))
    have hsi : ¬ (0 : Int) < (sl.length : Int) := by omega
    have hsd : decide ((0 : Int) < (sl.length : Int)) = false := decide_eq_false hsi
    by_cases hi : 8 < it.length
    · have hii : (8 : Int) < (it.length : Int) := by omega
      have he : checkR ⟨pre, true, sl, it⟩ = 3 := by unfold checkR checkA; simp [hp, hs, hi]
      rw [he] at HR
      go_enter Try.func55, Try.ntmps55
      go_wp2_with fail
      exact HR.out _ (((Ext.refl (fun _ => False) w).alloc _).below (Nat.le_refl _) (fun _ _ h => h))
    have hii : ¬ (8 : Int) < (it.length : Int) := by omega
    have hid : decide ((8 : Int) < (it.length : Int)) = false := decide_eq_false hii
    have hca : checkA ⟨pre, true, sl, it⟩ = 0 := by unfold checkA; simp [hp, hi, hs]
    have HCA := Lib.hid hca
    clear hca
    go_enter Try.func55, Try.ntmps55
    go_wp2_with fail
    generalize hw1 : w.alloc (.cells #[.string pre, .bool true, .slice A1 sl.length c1, .slice A2 it.length c2] 27) = w1 at *
    generalize hbk : w.heap.size = bp at *
    have HBP := HB
    clear HB hw1 H1
    have hse : sl.length = 0 := by omega
    have hcr : checkR ⟨pre, true, sl, it⟩ = firstErr (itF pre it) it.length := by
      unfold checkR
      rw [if_neg (fun h => h HCA.out)]
      split
      · rfl
      · next h => rw [hse]; exact (Decidable.not_not.1 h).symm
    rw [hcr] at HR
    clear hcr HCA hi hs hsi hsd hp hpi hpd hii hid
    have HSE := Lib.hid hse
    clear hse
    go_loopw [3, 67] (ChkI w1 pre it) (fun _ i _ => it.length - (RowKit.intOf i).toNat)
    case atStart => exact ⟨0, rfl, rfl, Nat.zero_le _, rfl, Ext.refl _ _⟩
    case round =>
      obtain ⟨j, rfl, rfl, hj, hfe, hx⟩ := hrel
      have hj0 : (0 : Int) ≤ (j : Int) := Int.natCast_nonneg _
      have hbp := HBP.ext hx id
      have p0 := hbp.cell 0
      have p2 := hbp.cell 2
      dsimp at p0 p2
      by_cases hlt : j < it.length
      · have hj1 : (j : Int) < (it.length : Int) := by omega
        have hjd : decide (j < it.length) = true := by simpa using hlt
        have hrw := H2.ext hx (fun _ _ _ => id)
        obtain ⟨b, o, rfl, hb, d0, d1⟩ := hrw.it j hlt
        obtain ⟨⟨k, m⟩, hkm⟩ : ∃ x, it.getD j (emp, emp) = x := ⟨_, rfl⟩
        rw [hkm] at d0 d1
        dsimp only at d0 d1
        have hitf : itF pre it j = itemR pre (lastK it j) (decide (j = 0)) (k, m) := by unfold itF; rw [hkm]
        have hlk : lastK it (j + 1) = k := by rw [lastK_succ, hkm]
        have hj00 : ((j : Int) == 0) = decide (j = 0) := by rw [Bool.eq_iff_iff]; simp
        have hxa := hx.alloc (.cells #[.string k, .string m] 38)
        have hba := Blk.new wr 38 #[.string k, .string m]
        have q0 := hba.cell 0
        have q1 := hba.cell 1
        dsimp at q0 q1
        have p0' : ∀ x, (wr.alloc x).cell? ⟨bp, 0, none⟩ = some (.string pre) := fun x => (World.cell?_alloc_some wr _ x (by rw [p0]; rfl)).trans p0
        have HITF := Lib.hid hitf
        have HLK := Lib.hid hlk
        have HFE := Lib.hid hfe
        have HJ00 := Lib.hid hj00
        clear hrw hkm hitf hlk hfe hbp hj00 p2
        go_wp2_with fail
        rw [HJ00.out]
        refine page_item pre (lastK it j) (decide (j = 0)) (k, m) _ ?_
        intro w4 hb4
        have hx4 := hxa.trans (S' := fun _ => False) ((Ext.of_below hb4).mono (fun b hb e => absurd e (by omega))) (fun _ _ h => h)
        have hbx := hba.below hb4 (by simp)
        have r0 := hbx.cell 0
        dsimp at r0
        clear hb4 hxa hba q0 q1 p0' hbx
        obtain ⟨e, he⟩ : ∃ e, itemR pre (lastK it j) (decide (j = 0)) (k, m) = e := ⟨_, rfl⟩
        have hit := HITF.out
        rw [he] at hit ⊢
        by_cases hz : e = 0
        · have hze : (e != 0) = false := by simpa using hz
          have hnx : firstErr (itF pre it) (j + 1) = 0 := firstErr_step HFE.out (by rw [hit]; exact hz)
          have HNX := Lib.hid hnx
          clear hnx hit he hz
          go_wp2_with fail
          go_wp2
          go_roundw
          case rel => exact ⟨j + 1, by go_num, by rw [HLK.out], by omega, HNX.out, hx4⟩
          case measure => simp [RowKit.intOf]; omega
        · have hze : (e != 0) = true := by simpa using hz
          have hst : firstErr (itF pre it) it.length = e := by rw [firstErr_stop HFE.out (by rw [hit]; exact hz) it.length hlt, hit]
          rw [hst] at HR
          clear hst hit he hz
          go_wp2_with fail
          exact HR.out _ ((hx0.trans hx4 (fun _ _ h => h)).below (Nat.le_of_eq hbk.symm) (fun _ _ h => h))
      · have hje : j = it.length := by omega
        have hj1 : ¬ (j : Int) < (it.length : Int) := by omega
        have hjd : decide (j < it.length) = false := by simpa using hlt
        rw [hje] at hfe
        rw [hfe] at HR
        clear hje hfe p0
        go_wp2_with fail
        clear hlt hj1 hjd p2
        go_loopw [88] (fun i w => i = .int .i64 0 ∧ Ext (fun _ => False) w1 w) (fun _ _ => 0)
        case atStart => exact ⟨rfl, hx⟩
        case round =>
          obtain ⟨rfl, hx⟩ := hrel
          have hs1 : ¬ (0 : Int) < (sl.length : Int) := by rw [HSE.out]; decide
          have hs2 : decide ((0 : Int) < (sl.length : Int)) = false := decide_eq_false hs1
          go_wp2_with fail
          exact HR.out _ ((hx0.trans hx (fun _ _ h => h)).below (Nat.le_of_eq hbk.symm) (fun _ _ h => h))
end
end Go.Proofs.Ytlkjonlipnmbnaa
