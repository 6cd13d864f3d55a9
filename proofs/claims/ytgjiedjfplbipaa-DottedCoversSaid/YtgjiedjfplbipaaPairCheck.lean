/- pairs.Check, spenceref14.Check. -/
import Derived.Test.YtgjiedjfplbipaaPairMath
import Derived.Test.YtgjiedjfplbipaaPageItem
import Derived.Test.YtgjiedjfplbipaaRef20Check
namespace Go.Proofs.Ytgjiedjfplbipaa
open Go.RowKit Go.Lib
section
set_option maxHeartbeats 2000000 in
set_option maxRecDepth 100000 in
theorem pairs_Check (l : List It) (A : Option Addr) (c : Nat) (w : World) (h : Row w A (flat itC l)) {R : Ending → World → Prop}
    (hR : ∀ w', Below w.heap.size w w' → R (.returned (.int .i64 (checkL 8 (prF l) l.length))) w') :
    Calls Try.prog 33 #[.slice A l.length c] w R := by
  have HR := Lib.hid hR
  clear hR
  have hl0 : (0 : Int) ≤ (l.length : Int) := Int.natCast_nonneg _
  unfold checkL at HR
  by_cases hbig : 8 < l.length
  · rw [if_pos hbig] at HR
    have hb1 : (8 : Int) < (l.length : Int) := by omega
    have hb2 : decide ((8 : Int) < (l.length : Int)) = true := decide_eq_true hb1
    go_enter Try.func33, Try.ntmps33
    go_wp2_with fail
    exact HR.out _ (Below.refl _ _)
  rw [if_neg hbig] at HR
  have hb1 : ¬ (8 : Int) < (l.length : Int) := by omega
  have hb2 : decide ((8 : Int) < (l.length : Int)) = false := decide_eq_false hb1
  go_enter Try.func33, Try.ntmps33
  go_wp2_with fail
  clear hb1 hb2
  go_loopw [10] (ChkRel (prF l) l.length w) (fun i _ => l.length - (RowKit.intOf i).toNat)
  case atStart => exact ⟨0, rfl, Nat.zero_le _, rfl, Ext.refl _ _⟩
  case round =>
    obtain ⟨j, rfl, hj, hfe, hx⟩ := hrel
    have hj0 : (0 : Int) ≤ (j : Int) := Int.natCast_nonneg _
    by_cases hlt : j < l.length
    · have hj1 : (j : Int) < (l.length : Int) := by omega
      have hjd : decide ((j : Int) < (l.length : Int)) = true := decide_eq_true hj1
      have hrw := h.ext hx (fun _ _ _ => id)
      obtain ⟨b, o, hA, hb, d0, d1⟩ := hrw.it j hlt
      obtain ⟨⟨k, m⟩, hkm⟩ : ∃ x, l.getD j ((emp, emp) : It) = x := ⟨_, rfl⟩
      have hv : prF l j = if 32 < k.size then 3 else if k.size = 0 then 14 else if 0 < j ∧ leB k (l.getD (j - 1) ((emp, emp) : It)).1 = true then 6 else if 32768 < m.size then 3 else 0 := by
        unfold prF; rw [hkm]
      rw [hkm] at d0 d1
      dsimp only at d0 d1
      have HV := Lib.hid hv
      have HFE := Lib.hid hfe
      clear hkm hv hfe
      subst hA
      go_upto_region 6 with fail
      have hba := Blk.new wr 34 #[.string k, .string m]
      have hxa := hx.alloc (.cells #[.string k, .string m] 34)
      replace hrw := hrw.alloc (.cells #[.string k, .string m] 34)
      generalize hwa : wr.alloc (.cells #[.string k, .string m] 34) = wa at *
      generalize hbx : wr.heap.size = bx at *
      clear hwa hbx d0 d1 hx
      have q0 := hba.cell 0
      have q1 := hba.cell 1
      dsimp at q0 q1
      have hfin : Below w.heap.size w wa := hxa.below (Nat.le_refl _) (fun _ _ h => h)
      by_cases h1 : 32 < k.size
      · have e1 : (32 : Int) < (k.size : Int) := by omega
        have e2 : decide ((32 : Int) < (k.size : Int)) = true := decide_eq_true e1
        have hst : firstErr (prF l) l.length = 3 := by
          have hv := HV.out
          rw [if_pos h1] at hv
          rw [firstErr_stop HFE.out (by rw [hv]; decide) l.length hlt, hv]
        rw [hst] at HR
        clear hst h1
        go_wp2_with fail
        exact HR.out _ hfin
      · have e1 : ¬ (32 : Int) < (k.size : Int) := by omega
        have e2 : decide ((32 : Int) < (k.size : Int)) = false := decide_eq_false e1
        by_cases h2 : k.size = 0
        · have e3 := str_em k h2
          have hst : firstErr (prF l) l.length = 14 := by
            have hv := HV.out
            rw [if_neg h1, if_pos h2] at hv
            rw [firstErr_stop HFE.out (by rw [hv]; decide) l.length hlt, hv]
          rw [hst] at HR
          clear hst h1 h2
          go_wp2_with fail
          exact HR.out _ hfin
        · have e3 := str_ne' k (by omega)
          by_cases hjz : j = 0
          · have hz1 : ¬ (0 : Int) < (j : Int) := by omega
            have hz2 : decide ((0 : Int) < (j : Int)) = false := decide_eq_false hz1
            have hz3 : ¬ 0 < j := by omega
            have hz4 : decide (0 < j) = false := decide_eq_false hz3
            have hv := HV.out
            rw [if_neg h1, if_neg h2, if_neg (fun h => hz3 h.1)] at hv
            replace HV := Lib.hid hv
            clear hv h1 h2 hjz
            go_wp2_with fail
            go_quiet (fail)
            clear hz1 hz2 hz3 hz4 q0 e1 e2 e3
            by_cases hlast : 32768 < m.size
            · have hst : firstErr (prF l) l.length = 3 := by
                have hv := HV.out
                rw [if_pos hlast] at hv
                rw [firstErr_stop HFE.out (by rw [hv]; decide) l.length hlt, hv]
              rw [hst] at HR
              have hl1 : (32768 : Int) < (m.size : Int) := by omega
              have hl2 : decide ((32768 : Int) < (m.size : Int)) = true := decide_eq_true hl1
              clear hst hlast
              go_wp2_with fail
              exact HR.out _ (below_drewN hfin _)
            · have hnx : firstErr (prF l) (j + 1) = 0 := firstErr_step HFE.out (by rw [HV.out, if_neg hlast])
              have HNX := Lib.hid hnx
              have hl1 : ¬ (32768 : Int) < (m.size : Int) := by omega
              have hl2 : decide ((32768 : Int) < (m.size : Int)) = false := decide_eq_false hl1
              clear hnx hlast
              go_wp2_with fail
              go_wp2
              go_roundw
              case rel => exact ⟨j + 1, by go_num, by omega, HNX.out, (hxa.drewN _)⟩
              case measure => simp [RowKit.intOf]; omega
          · have hz1 : (0 : Int) < (j : Int) := by omega
            have hz2 : decide ((0 : Int) < (j : Int)) = true := decide_eq_true hz1
            have hz3 : 0 < j := by omega
            have hz4 : decide (0 < j) = true := decide_eq_true hz3
            have hjw : wrap64 ((j : Int) - 1) = ((j - 1 : Nat) : Int) := by
              have e : (j : Int) - 1 = ((j - 1 : Nat) : Int) := by omega
              rw [e]; unfold wrap64; omega
            have hjl : ((j - 1 : Nat) : Int) < (l.length : Int) := by omega
            have hjn : (0 : Int) ≤ ((j - 1 : Nat) : Int) := Int.natCast_nonneg _
            obtain ⟨b', o', he', hb', g0, _⟩ := hrw.it (j - 1) (by omega)
            cases he'
            obtain ⟨k', hk'⟩ : ∃ x, (l.getD (j - 1) ((emp, emp) : It)).1 = x := ⟨_, rfl⟩
            rw [hk'] at g0
            have hv := HV.out
            rw [if_neg h1, if_neg h2, hk'] at hv
            obtain ⟨x, hx⟩ : ∃ x, Op.bytesLess k.toList k'.toList = x := ⟨_, rfl⟩
            obtain ⟨y, hy⟩ : ∃ y, (k.toList == k'.toList) = y := ⟨_, rfl⟩
            rw [leB_of hx hy] at hv
            replace HV := Lib.hid hv
            clear hv hk' h1 h2 hjz
            cases hxy : (x || y)
            · obtain ⟨rfl, rfl⟩ : x = false ∧ y = false := by cases x <;> cases y <;> simp_all
              have hv := HV.out
              rw [hxy, if_neg (fun h => by cases h.2)] at hv
              replace HV := Lib.hid hv
              clear hv hxy
              go_wp2_with fail
              go_quiet (fail)
              clear hz1 hz2 hz3 hz4 q0 e1 e2 e3 g0 hx hy hjw hjl hjn
              by_cases hlast : 32768 < m.size
              · have hst : firstErr (prF l) l.length = 3 := by
                  have hv := HV.out
                  rw [if_pos hlast] at hv
                  rw [firstErr_stop HFE.out (by rw [hv]; decide) l.length hlt, hv]
                rw [hst] at HR
                have hl1 : (32768 : Int) < (m.size : Int) := by omega
                have hl2 : decide ((32768 : Int) < (m.size : Int)) = true := decide_eq_true hl1
                clear hst hlast
                go_wp2_with fail
                exact HR.out _ (below_drewN hfin _)
              · have hnx : firstErr (prF l) (j + 1) = 0 := firstErr_step HFE.out (by rw [HV.out, if_neg hlast])
                have HNX := Lib.hid hnx
                have hl1 : ¬ (32768 : Int) < (m.size : Int) := by omega
                have hl2 : decide ((32768 : Int) < (m.size : Int)) = false := decide_eq_false hl1
                clear hnx hlast
                go_wp2_with fail
                go_wp2
                go_roundw
                case rel => exact ⟨j + 1, by go_num, by omega, HNX.out, (hxa.drewN _)⟩
                case measure => simp [RowKit.intOf]; omega
            · have hst : firstErr (prF l) l.length = 6 := by
                have hv := HV.out
                rw [hxy, if_pos ⟨hz3, rfl⟩] at hv
                rw [firstErr_stop HFE.out (by rw [hv]; decide) l.length hlt, hv]
              rw [hst] at HR
              have hxy' : x = true ∨ (x = false ∧ y = true) := by cases x <;> cases y <;> simp_all
              clear hst hxy
              rcases hxy' with rfl | ⟨rfl, rfl⟩
              all_goals
                go_wp2_with fail
                go_quiet (fail)
                go_wp2_with fail
                exact HR.out _ (below_drewN hfin _)
    · have hje : j = l.length := by omega
      have hj1 : ¬ (j : Int) < (l.length : Int) := by omega
      have hjd : decide ((j : Int) < (l.length : Int)) = false := decide_eq_false hj1
      rw [hje] at hfe
      rw [hfe] at HR
      clear hje hfe
      go_wp2_with fail
      exact HR.out _ (hx.below (Nat.le_refl _) (fun _ _ h => h))
set_option maxHeartbeats 2000000 in
set_option maxRecDepth 100000 in
theorem ref14_Check (l : List It) (A : Option Addr) (c : Nat) (w : World) (h : Row w A (flat itC l)) {R : Ending → World → Prop}
    (hR : ∀ w', Below w.heap.size w w' → R (.returned (.int .i64 (checkL 8 (prF l) l.length))) w') :
    Calls Try.prog 26 #[.slice A l.length c] w R := by
  have HR := Lib.hid hR
  clear hR
  have hl0 : (0 : Int) ≤ (l.length : Int) := Int.natCast_nonneg _
  unfold checkL at HR
  by_cases hbig : 8 < l.length
  · rw [if_pos hbig] at HR
    have hb1 : (8 : Int) < (l.length : Int) := by omega
    have hb2 : decide ((8 : Int) < (l.length : Int)) = true := decide_eq_true hb1
    go_enter Try.func26, Try.ntmps26
    go_wp2_with fail
    exact HR.out _ (Below.refl _ _)
  rw [if_neg hbig] at HR
  have hb1 : ¬ (8 : Int) < (l.length : Int) := by omega
  have hb2 : decide ((8 : Int) < (l.length : Int)) = false := decide_eq_false hb1
  go_enter Try.func26, Try.ntmps26
  go_wp2_with fail
  clear hb1 hb2
  go_loopw [3] (ChkRel (prF l) l.length w) (fun i _ => l.length - (RowKit.intOf i).toNat)
  case atStart => exact ⟨0, rfl, Nat.zero_le _, rfl, Ext.refl _ _⟩
  case round =>
    obtain ⟨j, rfl, hj, hfe, hxa⟩ := hrel
    have hj0 : (0 : Int) ≤ (j : Int) := Int.natCast_nonneg _
    by_cases hlt : j < l.length
    · have hj1 : (j : Int) < (l.length : Int) := by omega
      have hjd : decide ((j : Int) < (l.length : Int)) = true := decide_eq_true hj1
      have hrw := h.ext hxa (fun _ _ _ => id)
      obtain ⟨b, o, hA, hb, d0, d1⟩ := hrw.it j hlt
      obtain ⟨⟨k, m⟩, hkm⟩ : ∃ x, l.getD j ((emp, emp) : It) = x := ⟨_, rfl⟩
      have hv : prF l j = if 32 < k.size then 3 else if k.size = 0 then 14 else if 0 < j ∧ leB k (l.getD (j - 1) ((emp, emp) : It)).1 = true then 6 else if 32768 < m.size then 3 else 0 := by
        unfold prF; rw [hkm]
      rw [hkm] at d0 d1
      dsimp only at d0 d1
      have HV := Lib.hid hv
      have HFE := Lib.hid hfe
      clear hkm hv hfe
      subst hA
      have hfin : Below w.heap.size w wr := hxa.below (Nat.le_refl _) (fun _ _ h => h)
      by_cases h1 : 32 < k.size
      · have e1 : (32 : Int) < (k.size : Int) := by omega
        have e2 : decide ((32 : Int) < (k.size : Int)) = true := decide_eq_true e1
        have hst : firstErr (prF l) l.length = 3 := by
          have hv := HV.out
          rw [if_pos h1] at hv
          rw [firstErr_stop HFE.out (by rw [hv]; decide) l.length hlt, hv]
        rw [hst] at HR
        clear hst h1
        go_wp2_with fail
        exact HR.out _ hfin
      · have e1 : ¬ (32 : Int) < (k.size : Int) := by omega
        have e2 : decide ((32 : Int) < (k.size : Int)) = false := decide_eq_false e1
        by_cases h2 : k.size = 0
        · have e3 : ((k.size : Int) == 0) = true := by simp [h2]
          have hst : firstErr (prF l) l.length = 14 := by
            have hv := HV.out
            rw [if_neg h1, if_pos h2] at hv
            rw [firstErr_stop HFE.out (by rw [hv]; decide) l.length hlt, hv]
          rw [hst] at HR
          clear hst h1 h2
          go_wp2_with fail
          exact HR.out _ hfin
        · have e3 : ((k.size : Int) == 0) = false := by
            have : ¬ (k.size : Int) = 0 := by omega
            simpa using this
          by_cases hjz : j = 0
          · have hz1 : ¬ (0 : Int) < (j : Int) := by omega
            have hz2 : decide ((0 : Int) < (j : Int)) = false := decide_eq_false hz1
            have hz3 : ¬ 0 < j := by omega
            have hz4 : decide (0 < j) = false := decide_eq_false hz3
            have hv := HV.out
            rw [if_neg h1, if_neg h2, if_neg (fun h => hz3 h.1)] at hv
            replace HV := Lib.hid hv
            clear hv h1 h2 hjz
            go_wp2_with fail
            go_quiet (fail)
            clear hz1 hz2 hz3 hz4 e1 e2 e3
            by_cases hlast : 32768 < m.size
            · have hst : firstErr (prF l) l.length = 3 := by
                have hv := HV.out
                rw [if_pos hlast] at hv
                rw [firstErr_stop HFE.out (by rw [hv]; decide) l.length hlt, hv]
              rw [hst] at HR
              have hl1 : (32768 : Int) < (m.size : Int) := by omega
              have hl2 : decide ((32768 : Int) < (m.size : Int)) = true := decide_eq_true hl1
              clear hst hlast
              go_wp2_with fail
              exact HR.out _ (below_drewN hfin _)
            · have hnx : firstErr (prF l) (j + 1) = 0 := firstErr_step HFE.out (by rw [HV.out, if_neg hlast])
              have HNX := Lib.hid hnx
              have hl1 : ¬ (32768 : Int) < (m.size : Int) := by omega
              have hl2 : decide ((32768 : Int) < (m.size : Int)) = false := decide_eq_false hl1
              clear hnx hlast
              go_wp2_with fail
              go_wp2
              go_roundw
              case rel => exact ⟨j + 1, by go_num, by omega, HNX.out, (hxa.drewN _)⟩
              case measure => simp [RowKit.intOf]; omega
          · have hz1 : (0 : Int) < (j : Int) := by omega
            have hz2 : decide ((0 : Int) < (j : Int)) = true := decide_eq_true hz1
            have hz3 : 0 < j := by omega
            have hz4 : decide (0 < j) = true := decide_eq_true hz3
            have hjw : wrap64 ((j : Int) - 1) = ((j - 1 : Nat) : Int) := by
              have e : (j : Int) - 1 = ((j - 1 : Nat) : Int) := by omega
              rw [e]; unfold wrap64; omega
            have hjl : ((j - 1 : Nat) : Int) < (l.length : Int) := by omega
            have hjn : (0 : Int) ≤ ((j - 1 : Nat) : Int) := Int.natCast_nonneg _
            obtain ⟨b', o', he', hb', g0, _⟩ := hrw.it (j - 1) (by omega)
            cases he'
            obtain ⟨k', hk'⟩ : ∃ x, (l.getD (j - 1) ((emp, emp) : It)).1 = x := ⟨_, rfl⟩
            have hks : k'.size ≤ 32 := by
              have hz := firstErr_zero HFE.out (j - 1) (by omega)
              unfold prF at hz
              rw [hk'] at hz
              refine Decidable.byContradiction (fun c => ?_)
              rw [if_pos (by omega)] at hz
              exact absurd hz (by decide)
            rw [hk'] at g0
            have hv := HV.out
            rw [if_neg h1, if_neg h2, hk', leB_not] at hv
            replace HV := Lib.hid hv
            clear hv hk' h1 h2 hjz
            cases hL : Op.bytesLess k'.toList k.toList
            · have hst : firstErr (prF l) l.length = 6 := by
                have hv := HV.out
                rw [hL, if_pos ⟨hz3, rfl⟩] at hv
                rw [firstErr_stop HFE.out (by rw [hv]; decide) l.length hlt, hv]
              rw [hst] at HR
              clear hst
              go_wp2_with fail
              go_quiet ((first
                | (go_at_call 71; exact quiet_d (ref06_Below k' k _ (by omega)))))
              go_wp2_with fail
              exact HR.out _ (below_drewN hfin _)
            · have hv := HV.out
              rw [hL, if_neg (fun h => by cases h.2)] at hv
              replace HV := Lib.hid hv
              clear hv
              go_wp2_with fail
              go_quiet ((first
                | (go_at_call 71; exact quiet_d (ref06_Below k' k _ (by omega)))))
              clear hz1 hz2 hz3 hz4 e1 e2 e3 g0 hjw hjl hjn hL
              by_cases hlast : 32768 < m.size
              · have hst : firstErr (prF l) l.length = 3 := by
                  have hv := HV.out
                  rw [if_pos hlast] at hv
                  rw [firstErr_stop HFE.out (by rw [hv]; decide) l.length hlt, hv]
                rw [hst] at HR
                have hl1 : (32768 : Int) < (m.size : Int) := by omega
                have hl2 : decide ((32768 : Int) < (m.size : Int)) = true := decide_eq_true hl1
                clear hst hlast
                go_wp2_with fail
                exact HR.out _ (below_drewN hfin _)
              · have hnx : firstErr (prF l) (j + 1) = 0 := firstErr_step HFE.out (by rw [HV.out, if_neg hlast])
                have HNX := Lib.hid hnx
                have hl1 : ¬ (32768 : Int) < (m.size : Int) := by omega
                have hl2 : decide ((32768 : Int) < (m.size : Int)) = false := decide_eq_false hl1
                clear hnx hlast
                go_wp2_with fail
                go_wp2
                go_roundw
                case rel => exact ⟨j + 1, by go_num, by omega, HNX.out, (hxa.drewN _)⟩
                case measure => simp [RowKit.intOf]; omega
    · have hje : j = l.length := by omega
      have hj1 : ¬ (j : Int) < (l.length : Int) := by omega
      have hjd : decide ((j : Int) < (l.length : Int)) = false := decide_eq_false hj1
      rw [hje] at hfe
      rw [hfe] at HR
      clear hje hfe
      go_wp2_with fail
      exact HR.out _ (hxa.below (Nat.le_refl _) (fun _ _ h => h))
end
end Go.Proofs.Ytgjiedjfplbipaa
