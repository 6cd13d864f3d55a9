/- Vectors: Check, Count, Same, Great. -/
import Derived.Test.YtgjiedjfplbipaaPairMath
import Derived.Test.YtgjiedjfplbipaaPageItem
import Derived.Test.YtgjiedjfplbipaaRef20Check
import Derived.Test.YtgjiedjfplbipaaRef20Same
namespace Go.Proofs.Ytgjiedjfplbipaa
open Go.RowKit Go.Lib
section
set_option maxHeartbeats 2000000 in
set_option maxRecDepth 100000 in
theorem vector_Check (l : List En) (A : Option Addr) (c : Nat) (w : World) (h : Row w A (flat enC l)) {R : Ending → World → Prop}
    (hR : ∀ w', Below w.heap.size w w' → R (.returned (.int .i64 (checkL 64 (enF l) l.length))) w') :
    Calls Try.prog 38 #[.slice A l.length c] w R := by
  have HR := Lib.hid hR
  clear hR
  have hl0 : (0 : Int) ≤ (l.length : Int) := Int.natCast_nonneg _
  unfold checkL at HR
  by_cases hbig : 64 < l.length
  · rw [if_pos hbig] at HR
    have hb1 : (64 : Int) < (l.length : Int) := by omega
    have hb2 : decide ((64 : Int) < (l.length : Int)) = true := decide_eq_true hb1
    go_enter Try.func38, Try.ntmps38
    go_wp2_with fail
    exact HR.out _ (Below.refl _ _)
  rw [if_neg hbig] at HR
  have hb1 : ¬ (64 : Int) < (l.length : Int) := by omega
  have hb2 : decide ((64 : Int) < (l.length : Int)) = false := decide_eq_false hb1
  go_enter Try.func38, Try.ntmps38
  go_wp2_with fail
  clear hb1 hb2
  go_loopw [10] (ChkRel (enF l) l.length w) (fun i _ => l.length - (RowKit.intOf i).toNat)
  case atStart => exact ⟨0, rfl, Nat.zero_le _, rfl, Ext.refl _ _⟩
  case round =>
    obtain ⟨j, rfl, hj, hfe, hx⟩ := hrel
    have hj0 : (0 : Int) ≤ (j : Int) := Int.natCast_nonneg _
    by_cases hlt : j < l.length
    · have hj1 : (j : Int) < (l.length : Int) := by omega
      have hjd : decide ((j : Int) < (l.length : Int)) = true := decide_eq_true hj1
      have hrw := h.ext hx (fun _ _ _ => id)
      obtain ⟨b, o, hA, hb, d0, d1⟩ := hrw.en j hlt
      obtain ⟨⟨k, m⟩, hkm⟩ : ∃ x, l.getD j ((emp, 0) : En) = x := ⟨_, rfl⟩
      have hv : enF l j = if 32 < k.size then 3 else if k.size = 0 then 14 else if 0 < j ∧ leB k (l.getD (j - 1) ((emp, 0) : En)).1 = true then 6 else if m = 0 then 7 else 0 := by
        unfold enF; rw [hkm]
      rw [hkm] at d0 d1
      dsimp only at d0 d1
      have HV := Lib.hid hv
      have HFE := Lib.hid hfe
      clear hkm hv hfe
      subst hA
      go_upto_region 6 with fail
      have hba := Blk.new wr 82 #[.string k, .int .u64 m]
      have hxa := hx.alloc (.cells #[.string k, .int .u64 m] 82)
      replace hrw := hrw.alloc (.cells #[.string k, .int .u64 m] 82)
      generalize hwa : wr.alloc (.cells #[.string k, .int .u64 m] 82) = wa at *
      generalize hbx : wr.heap.size = bx at *
      clear hwa hbx d0 d1 hx
      have q0 := hba.cell 0
      have q1 := hba.cell 1
      dsimp at q0 q1
      have hfin : Below w.heap.size w wa := hxa.below (Nat.le_refl _) (fun _ _ h => h)
      by_cases h1 : 32 < k.size
      · have e1 : (32 : Int) < (k.size : Int) := by omega
        have e2 : decide ((32 : Int) < (k.size : Int)) = true := decide_eq_true e1
        have hst : firstErr (enF l) l.length = 3 := by
          have hv := HV.out
          rw [if_pos h1] at hv
          rw [firstErr_stop HFE.out (by rw [hv]; decide) l.length hlt, hv]
        rw [hst] at HR
        clear hst h1
        go_wp2_with fail
        exact HR.out _ hfin
      · have e1 : ¬ (32 : Int) < (k.size : Int) := by omega
        have e2 : decide ((32 : Int) < (k.size : Int)) = false := decide_eq_false e1
        by_cases h2 : k.size = 0
        · have e3 := str_em k h2
          have hst : firstErr (enF l) l.length = 14 := by
            have hv := HV.out
            rw [if_neg h1, if_pos h2] at hv
            rw [firstErr_stop HFE.out (by rw [hv]; decide) l.length hlt, hv]
          rw [hst] at HR
          clear hst h1 h2
          go_wp2_with fail
          exact HR.out _ hfin
        · have e3 := str_ne' k (by omega)
          by_cases hjz : j = 0
          · have hz1 : ¬ (0 : Int) < (j : Int) := by omega
            have hz2 : decide ((0 : Int) < (j : Int)) = false := decide_eq_false hz1
            have hz3 : ¬ 0 < j := by omega
            have hz4 : decide (0 < j) = false := decide_eq_false hz3
            have hv := HV.out
            rw [if_neg h1, if_neg h2, if_neg (fun h => hz3 h.1)] at hv
            replace HV := Lib.hid hv
            clear hv h1 h2 hjz
            go_wp2_with fail
            go_quiet (fail)
            clear hz1 hz2 hz3 hz4 q0 e1 e2 e3
            by_cases hlast : m = 0
            · have hst : firstErr (enF l) l.length = 7 := by
                have hv := HV.out
                rw [if_pos hlast] at hv
                rw [firstErr_stop HFE.out (by rw [hv]; decide) l.length hlt, hv]
              rw [hst] at HR
              have hl2 : (m == 0) = true := by simp [hlast]
              clear hst hlast
              go_wp2_with fail
              exact HR.out _ (below_drewN hfin _)
            · have hnx : firstErr (enF l) (j + 1) = 0 := firstErr_step HFE.out (by rw [HV.out, if_neg hlast])
              have HNX := Lib.hid hnx
              have hl2 : (m == 0) = false := by simpa using hlast
              clear hnx hlast
              go_wp2_with fail
              go_wp2
              go_roundw
              case rel => exact ⟨j + 1, by go_num, by omega, HNX.out, (hxa.drewN _)⟩
              case measure => simp [RowKit.intOf]; omega
          · have hz1 : (0 : Int) < (j : Int) := by omega
            have hz2 : decide ((0 : Int) < (j : Int)) = true := decide_eq_true hz1
            have hz3 : 0 < j := by omega
            have hz4 : decide (0 < j) = true := decide_eq_true hz3
            have hjw : wrap64 ((j : Int) - 1) = ((j - 1 : Nat) : Int) := by
              have e : (j : Int) - 1 = ((j - 1 : Nat) : Int) := by omega
              rw [e]; unfold wrap64; omega
            have hjl : ((j - 1 : Nat) : Int) < (l.length : Int) := by omega
            have hjn : (0 : Int) ≤ ((j - 1 : Nat) : Int) := Int.natCast_nonneg _
            obtain ⟨b', o', he', hb', g0, _⟩ := hrw.en (j - 1) (by omega)
            cases he'
            obtain ⟨k', hk'⟩ : ∃ x, (l.getD (j - 1) ((emp, 0) : En)).1 = x := ⟨_, rfl⟩
            rw [hk'] at g0
            have hv := HV.out
            rw [if_neg h1, if_neg h2, hk'] at hv
            obtain ⟨x, hx⟩ : ∃ x, Op.bytesLess k.toList k'.toList = x := ⟨_, rfl⟩
            obtain ⟨y, hy⟩ : ∃ y, (k.toList == k'.toList) = y := ⟨_, rfl⟩
            rw [leB_of hx hy] at hv
            replace HV := Lib.hid hv
            clear hv hk' h1 h2 hjz
            cases hxy : (x || y)
            · obtain ⟨rfl, rfl⟩ : x = false ∧ y = false := by cases x <;> cases y <;> simp_all
              have hv := HV.out
              rw [hxy, if_neg (fun h => by cases h.2)] at hv
              replace HV := Lib.hid hv
              clear hv hxy
              go_wp2_with fail
              go_quiet (fail)
              clear hz1 hz2 hz3 hz4 q0 e1 e2 e3 g0 hx hy hjw hjl hjn
              by_cases hlast : m = 0
              · have hst : firstErr (enF l) l.length = 7 := by
                  have hv := HV.out
                  rw [if_pos hlast] at hv
                  rw [firstErr_stop HFE.out (by rw [hv]; decide) l.length hlt, hv]
                rw [hst] at HR
                have hl2 : (m == 0) = true := by simp [hlast]
                clear hst hlast
                go_wp2_with fail
                exact HR.out _ (below_drewN hfin _)
              · have hnx : firstErr (enF l) (j + 1) = 0 := firstErr_step HFE.out (by rw [HV.out, if_neg hlast])
                have HNX := Lib.hid hnx
                have hl2 : (m == 0) = false := by simpa using hlast
                clear hnx hlast
                go_wp2_with fail
                go_wp2
                go_roundw
                case rel => exact ⟨j + 1, by go_num, by omega, HNX.out, (hxa.drewN _)⟩
                case measure => simp [RowKit.intOf]; omega
            · have hst : firstErr (enF l) l.length = 6 := by
                have hv := HV.out
                rw [hxy, if_pos ⟨hz3, rfl⟩] at hv
                rw [firstErr_stop HFE.out (by rw [hv]; decide) l.length hlt, hv]
              rw [hst] at HR
              have hxy' : x = true ∨ (x = false ∧ y = true) := by cases x <;> cases y <;> simp_all
              clear hst hxy
              rcases hxy' with rfl | ⟨rfl, rfl⟩
              all_goals
                go_wp2_with fail
                go_quiet (fail)
                go_wp2_with fail
                exact HR.out _ (below_drewN hfin _)
    · have hje : j = l.length := by omega
      have hj1 : ¬ (j : Int) < (l.length : Int) := by omega
      have hjd : decide ((j : Int) < (l.length : Int)) = false := decide_eq_false hj1
      rw [hje] at hfe
      rw [hfe] at HR
      clear hje hfe
      go_wp2_with fail
      exact HR.out _ (hx.below (Nat.le_refl _) (fun _ _ h => h))
set_option maxHeartbeats 2000000 in
set_option maxRecDepth 100000 in
theorem ref10_Check (l : List En) (A : Option Addr) (c : Nat) (w : World) (h : Row w A (flat enC l)) {R : Ending → World → Prop}
    (hR : ∀ w', Below w.heap.size w w' → R (.returned (.int .i64 (checkL 64 (enF l) l.length))) w') :
    Calls Try.prog 39 #[.slice A l.length c] w R := by
  have HR := Lib.hid hR
  clear hR
  have hl0 : (0 : Int) ≤ (l.length : Int) := Int.natCast_nonneg _
  unfold checkL at HR
  by_cases hbig : 64 < l.length
  · rw [if_pos hbig] at HR
    have hb1 : (64 : Int) < (l.length : Int) := by omega
    have hb2 : decide ((64 : Int) < (l.length : Int)) = true := decide_eq_true hb1
    go_enter Try.func39, Try.ntmps39
    go_wp2_with fail
    exact HR.out _ (Below.refl _ _)
  rw [if_neg hbig] at HR
  have hb1 : ¬ (64 : Int) < (l.length : Int) := by omega
  have hb2 : decide ((64 : Int) < (l.length : Int)) = false := decide_eq_false hb1
  go_enter Try.func39, Try.ntmps39
  go_wp2_with fail
  clear hb1 hb2
  go_loopw [3] (ChkRel (enF l) l.length w) (fun i _ => l.length - (RowKit.intOf i).toNat)
  case atStart => exact ⟨0, rfl, Nat.zero_le _, rfl, Ext.refl _ _⟩
  case round =>
    obtain ⟨j, rfl, hj, hfe, hxa⟩ := hrel
    have hj0 : (0 : Int) ≤ (j : Int) := Int.natCast_nonneg _
    by_cases hlt : j < l.length
    · have hj1 : (j : Int) < (l.length : Int) := by omega
      have hjd : decide ((j : Int) < (l.length : Int)) = true := decide_eq_true hj1
      have hrw := h.ext hxa (fun _ _ _ => id)
      obtain ⟨b, o, hA, hb, d0, d1⟩ := hrw.en j hlt
      obtain ⟨⟨k, m⟩, hkm⟩ : ∃ x, l.getD j ((emp, 0) : En) = x := ⟨_, rfl⟩
      have hv : enF l j = if 32 < k.size then 3 else if k.size = 0 then 14 else if 0 < j ∧ leB k (l.getD (j - 1) ((emp, 0) : En)).1 = true then 6 else if m = 0 then 7 else 0 := by
        unfold enF; rw [hkm]
      rw [hkm] at d0 d1
      dsimp only at d0 d1
      have HV := Lib.hid hv
      have HFE := Lib.hid hfe
      clear hkm hv hfe
      subst hA
      have hfin : Below w.heap.size w wr := hxa.below (Nat.le_refl _) (fun _ _ h => h)
      by_cases h1 : 32 < k.size
      · have e1 : (32 : Int) < (k.size : Int) := by omega
        have e2 : decide ((32 : Int) < (k.size : Int)) = true := decide_eq_true e1
        have hst : firstErr (enF l) l.length = 3 := by
          have hv := HV.out
          rw [if_pos h1] at hv
          rw [firstErr_stop HFE.out (by rw [hv]; decide) l.length hlt, hv]
        rw [hst] at HR
        clear hst h1
        go_wp2_with fail
        exact HR.out _ hfin
      · have e1 : ¬ (32 : Int) < (k.size : Int) := by omega
        have e2 : decide ((32 : Int) < (k.size : Int)) = false := decide_eq_false e1
        by_cases h2 : k.size = 0
        · have e3 : ((k.size : Int) == 0) = true := by simp [h2]
          have hst : firstErr (enF l) l.length = 14 := by
            have hv := HV.out
            rw [if_neg h1, if_pos h2] at hv
            rw [firstErr_stop HFE.out (by rw [hv]; decide) l.length hlt, hv]
          rw [hst] at HR
          clear hst h1 h2
          go_wp2_with fail
          exact HR.out _ hfin
        · have e3 : ((k.size : Int) == 0) = false := by
            have : ¬ (k.size : Int) = 0 := by omega
            simpa using this
          by_cases hjz : j = 0
          · have hz1 : ¬ (0 : Int) < (j : Int) := by omega
            have hz2 : decide ((0 : Int) < (j : Int)) = false := decide_eq_false hz1
            have hz3 : ¬ 0 < j := by omega
            have hz4 : decide (0 < j) = false := decide_eq_false hz3
            have hv := HV.out
            rw [if_neg h1, if_neg h2, if_neg (fun h => hz3 h.1)] at hv
            replace HV := Lib.hid hv
            clear hv h1 h2 hjz
            go_wp2_with fail
            go_quiet (fail)
            clear hz1 hz2 hz3 hz4 e1 e2 e3
            by_cases hlast : m = 0
            · have hst : firstErr (enF l) l.length = 7 := by
                have hv := HV.out
                rw [if_pos hlast] at hv
                rw [firstErr_stop HFE.out (by rw [hv]; decide) l.length hlt, hv]
              rw [hst] at HR
              have hl2 : (m == 0) = true := by simp [hlast]
              clear hst hlast
              go_wp2_with fail
              exact HR.out _ (below_drewN hfin _)
            · have hnx : firstErr (enF l) (j + 1) = 0 := firstErr_step HFE.out (by rw [HV.out, if_neg hlast])
              have HNX := Lib.hid hnx
              have hl2 : (m == 0) = false := by simpa using hlast
              clear hnx hlast
              go_wp2_with fail
              go_wp2
              go_roundw
              case rel => exact ⟨j + 1, by go_num, by omega, HNX.out, (hxa.drewN _)⟩
              case measure => simp [RowKit.intOf]; omega
          · have hz1 : (0 : Int) < (j : Int) := by omega
            have hz2 : decide ((0 : Int) < (j : Int)) = true := decide_eq_true hz1
            have hz3 : 0 < j := by omega
            have hz4 : decide (0 < j) = true := decide_eq_true hz3
            have hjw : wrap64 ((j : Int) - 1) = ((j - 1 : Nat) : Int) := by
              have e : (j : Int) - 1 = ((j - 1 : Nat) : Int) := by omega
              rw [e]; unfold wrap64; omega
            have hjl : ((j - 1 : Nat) : Int) < (l.length : Int) := by omega
            have hjn : (0 : Int) ≤ ((j - 1 : Nat) : Int) := Int.natCast_nonneg _
            obtain ⟨b', o', he', hb', g0, _⟩ := hrw.en (j - 1) (by omega)
            cases he'
            obtain ⟨k', hk'⟩ : ∃ x, (l.getD (j - 1) ((emp, 0) : En)).1 = x := ⟨_, rfl⟩
            have hks : k'.size ≤ 32 := by
              have hz := firstErr_zero HFE.out (j - 1) (by omega)
              unfold enF at hz
              rw [hk'] at hz
              refine Decidable.byContradiction (fun c => ?_)
              rw [if_pos (by omega)] at hz
              exact absurd hz (by decide)
            rw [hk'] at g0
            have hv := HV.out
            rw [if_neg h1, if_neg h2, hk', leB_not] at hv
            replace HV := Lib.hid hv
            clear hv hk' h1 h2 hjz
            cases hL : Op.bytesLess k'.toList k.toList
            · have hst : firstErr (enF l) l.length = 6 := by
                have hv := HV.out
                rw [hL, if_pos ⟨hz3, rfl⟩] at hv
                rw [firstErr_stop HFE.out (by rw [hv]; decide) l.length hlt, hv]
              rw [hst] at HR
              clear hst
              go_wp2_with fail
              go_quiet ((first
                | (go_at_call 71; exact quiet_d (ref06_Below k' k _ (by omega)))))
              go_wp2_with fail
              exact HR.out _ (below_drewN hfin _)
            · have hv := HV.out
              rw [hL, if_neg (fun h => by cases h.2)] at hv
              replace HV := Lib.hid hv
              clear hv
              go_wp2_with fail
              go_quiet ((first
                | (go_at_call 71; exact quiet_d (ref06_Below k' k _ (by omega)))))
              clear hz1 hz2 hz3 hz4 e1 e2 e3 g0 hjw hjl hjn hL
              by_cases hlast : m = 0
              · have hst : firstErr (enF l) l.length = 7 := by
                  have hv := HV.out
                  rw [if_pos hlast] at hv
                  rw [firstErr_stop HFE.out (by rw [hv]; decide) l.length hlt, hv]
                rw [hst] at HR
                have hl2 : (m == 0) = true := by simp [hlast]
                clear hst hlast
                go_wp2_with fail
                exact HR.out _ (below_drewN hfin _)
              · have hnx : firstErr (enF l) (j + 1) = 0 := firstErr_step HFE.out (by rw [HV.out, if_neg hlast])
                have HNX := Lib.hid hnx
                have hl2 : (m == 0) = false := by simpa using hlast
                clear hnx hlast
                go_wp2_with fail
                go_wp2
                go_roundw
                case rel => exact ⟨j + 1, by go_num, by omega, HNX.out, (hxa.drewN _)⟩
                case measure => simp [RowKit.intOf]; omega
    · have hje : j = l.length := by omega
      have hj1 : ¬ (j : Int) < (l.length : Int) := by omega
      have hjd : decide ((j : Int) < (l.length : Int)) = false := decide_eq_false hj1
      rw [hje] at hfe
      rw [hfe] at HR
      clear hje hfe
      go_wp2_with fail
      exact HR.out _ (hxa.below (Nat.le_refl _) (fun _ _ h => h))
set_option maxHeartbeats 2000000 in
set_option maxRecDepth 100000 in
theorem slices_Equal_Entry (l m : List En) (A B : Option Addr) (c d : Nat) (w : World) (h1 : Row w A (flat enC l)) (h2 : Row w B (flat enC m)) (hl : l.length ≤ 140737488351232) {R : Ending → World → Prop}
    (hR : ∀ w' n, w' = w.drewN n → R (.returned (.bool (decide (l = m)))) w') :
    Calls Try.prog 86 #[.slice A l.length c, .slice B m.length d] w R := by
  have HR := Lib.hid hR
  clear hR
  have hl0 : (0 : Int) ≤ (l.length : Int) := Int.natCast_nonneg _
  by_cases hlm : l.length = m.length
  · have hlb : ((l.length : Int) != (m.length : Int)) = false := by simp [hlm]
    have HLM := Lib.hid hlm
    clear hlm
    go_enter Try.func86, Try.ntmps86
    go_wp2_with fail
    go_loopw [13] (SmRel ((emp, 0) : En) w l m) (fun i _ => l.length - (RowKit.intOf i).toNat)
    case atStart => exact ⟨0, 0, rfl, Nat.zero_le _, fun k h => absurd h (by omega), rfl⟩
    case round =>
      obtain ⟨j, n, rfl, hj, hlk, rfl⟩ := hrel
      have hj0 : (0 : Int) ≤ (j : Int) := Int.natCast_nonneg _
      have HLK := Lib.hid hlk
      clear hlk
      by_cases hlt : j < l.length
      · have hj1 : (j : Int) < (l.length : Int) := by omega
        have hjd : decide ((j : Int) < (l.length : Int)) = true := decide_eq_true hj1
        have hlt' : j < m.length := by rw [← HLM.out]; exact hlt
        have hj2 : (j : Int) < (m.length : Int) := by omega
        have hjd2 : decide ((j : Int) < (m.length : Int)) = true := decide_eq_true hj2
        obtain ⟨b, o, hA, hb, e0, e1⟩ := h1.en j hlt
        obtain ⟨b', o', hA', hb', f0, f1⟩ := h2.en j hlt'
        obtain ⟨⟨k, t⟩, hkm⟩ : ∃ x, l.getD j ((emp, 0) : En) = x := ⟨_, rfl⟩
        obtain ⟨⟨k', t'⟩, hkm'⟩ : ∃ x, m.getD j ((emp, 0) : En) = x := ⟨_, rfl⟩
        rw [hkm] at e0 e1
        rw [hkm'] at f0 f1
        dsimp only at e0 e1 f0 f1
        have hmb := int_beq t t'
        have hkb := toList_beq k k'
        subst hA hA'
        by_cases hxy : k = k' ∧ t = t'
        · rw [decide_eq_true hxy.1] at hkb
          rw [decide_eq_true hxy.2] at hmb
          have hnx : ∀ i, i < j + 1 → l.getD i ((emp, 0) : En) = m.getD i ((emp, 0) : En) := fun i hi => by
            by_cases e : i = j
            · rw [e, hkm, hkm', hxy.1, hxy.2]
            · exact HLK.out i (by omega)
          have HNX := Lib.hid hnx
          clear hnx hxy hkm hkm'
          go_wp2_with fail
          go_quiet (fail)
          go_wp2
          go_roundw
          case rel => exact ⟨j + 1, _, by go_num, by omega, HNX.out, rfl⟩
          case measure => simp [RowKit.intOf]; omega
        · have hsm : decide (l = m) = false := by
            refine decide_eq_false (fun h => hxy ?_)
            rw [h, hkm'] at hkm
            exact ⟨congrArg Prod.fst hkm.symm, congrArg Prod.snd hkm.symm⟩
          rw [hsm] at HR
          clear hsm hkm hkm'
          by_cases hk : k = k'
          · have hm : ¬ t = t' := fun e => hxy ⟨hk, e⟩
            rw [decide_eq_true hk] at hkb
            rw [decide_eq_false hm] at hmb
            clear hxy hk hm
            go_wp2_with fail
            go_quiet (fail)
            go_wp2_with fail
            first | exact HR.out _ _ rfl | exact HR.out _ _ (World.drewN_drewN _ _ _)
          · rw [decide_eq_false hk] at hkb
            clear hxy hk hmb
            go_wp2_with fail
            go_quiet (fail)
            go_wp2_with fail
            first | exact HR.out _ _ rfl | exact HR.out _ _ (World.drewN_drewN _ _ _)
      · have hje : j = l.length := by omega
        have hj1 : ¬ (j : Int) < (l.length : Int) := by omega
        have hjd : decide ((j : Int) < (l.length : Int)) = false := decide_eq_false hj1
        rw [hje] at HLK
        rw [show decide (l = m) = true from decide_eq_true (list_like HLM.out HLK.out)] at HR
        clear hje
        go_wp2_with fail
        first | exact HR.out _ _ rfl | exact HR.out _ _ (World.drewN_drewN _ _ _)
  · have hlb : ((l.length : Int) != (m.length : Int)) = true := by
      have : ¬ (l.length : Int) = (m.length : Int) := by omega
      simpa using this
    rw [show decide (l = m) = false from decide_eq_false (fun h => hlm (by rw [h]))] at HR
    go_enter Try.func86, Try.ntmps86
    go_wp2_with fail
    exact HR.out _ 0 rfl
set_option maxHeartbeats 2000000 in
set_option maxRecDepth 100000 in
theorem ref10_Same (l m : List En) (A B : Option Addr) (c d : Nat) (w : World) (h1 : Row w A (flat enC l)) (h2 : Row w B (flat enC m)) (hl : l.length ≤ 140737488351232) {R : Ending → World → Prop}
    (hR : ∀ w' n, w' = w.drewN n → R (.returned (.bool (decide (l = m)))) w') :
    Calls Try.prog 43 #[.slice A l.length c, .slice B m.length d] w R := by
  have HR := Lib.hid hR
  clear hR
  have hl0 : (0 : Int) ≤ (l.length : Int) := Int.natCast_nonneg _
  by_cases hlm : l.length = m.length
  · have hlb : ((l.length : Int) != (m.length : Int)) = false := by simp [hlm]
    have HLM := Lib.hid hlm
    clear hlm
    go_enter Try.func43, Try.ntmps43
    go_wp2_with fail
    go_loopw [5] (SmRel ((emp, 0) : En) w l m) (fun i _ => l.length - (RowKit.intOf i).toNat)
    case atStart => exact ⟨0, 0, rfl, Nat.zero_le _, fun k h => absurd h (by omega), rfl⟩
    case round =>
      obtain ⟨j, n, rfl, hj, hlk, rfl⟩ := hrel
      have hj0 : (0 : Int) ≤ (j : Int) := Int.natCast_nonneg _
      have HLK := Lib.hid hlk
      clear hlk
      by_cases hlt : j < l.length
      · have hj1 : (j : Int) < (l.length : Int) := by omega
        have hjd : decide ((j : Int) < (l.length : Int)) = true := decide_eq_true hj1
        have hlt' : j < m.length := by rw [← HLM.out]; exact hlt
        have hj2 : (j : Int) < (m.length : Int) := by omega
        have hjd2 : decide ((j : Int) < (m.length : Int)) = true := decide_eq_true hj2
        obtain ⟨b, o, hA, hb, e0, e1⟩ := h1.en j hlt
        obtain ⟨b', o', hA', hb', f0, f1⟩ := h2.en j hlt'
        obtain ⟨⟨k, t⟩, hkm⟩ : ∃ x, l.getD j ((emp, 0) : En) = x := ⟨_, rfl⟩
        obtain ⟨⟨k', t'⟩, hkm'⟩ : ∃ x, m.getD j ((emp, 0) : En) = x := ⟨_, rfl⟩
        rw [hkm] at e0 e1
        rw [hkm'] at f0 f1
        dsimp only at e0 e1 f0 f1
        have hmb := int_beq t t'
        have hkb := toList_beq k k'
        subst hA hA'
        by_cases hxy : k = k' ∧ t = t'
        · rw [decide_eq_true hxy.1] at hkb
          rw [decide_eq_true hxy.2] at hmb
          have hnx : ∀ i, i < j + 1 → l.getD i ((emp, 0) : En) = m.getD i ((emp, 0) : En) := fun i hi => by
            by_cases e : i = j
            · rw [e, hkm, hkm', hxy.1, hxy.2]
            · exact HLK.out i (by omega)
          have HNX := Lib.hid hnx
          clear hnx hxy hkm hkm'
          go_wp2_with fail
          go_quiet (fail)
          go_wp2
          go_roundw
          case rel => exact ⟨j + 1, _, by go_num, by omega, HNX.out, rfl⟩
          case measure => simp [RowKit.intOf]; omega
        · have hsm : decide (l = m) = false := by
            refine decide_eq_false (fun h => hxy ?_)
            rw [h, hkm'] at hkm
            exact ⟨congrArg Prod.fst hkm.symm, congrArg Prod.snd hkm.symm⟩
          rw [hsm] at HR
          clear hsm hkm hkm'
          by_cases hk : k = k'
          · have hm : ¬ t = t' := fun e => hxy ⟨hk, e⟩
            rw [decide_eq_true hk] at hkb
            rw [decide_eq_false hm] at hmb
            clear hxy hk hm
            go_wp2_with fail
            go_quiet (fail)
            go_wp2_with fail
            first | exact HR.out _ _ rfl | exact HR.out _ _ (World.drewN_drewN _ _ _)
          · rw [decide_eq_false hk] at hkb
            clear hxy hk hmb
            go_wp2_with fail
            go_quiet (fail)
            go_wp2_with fail
            first | exact HR.out _ _ rfl | exact HR.out _ _ (World.drewN_drewN _ _ _)
      · have hje : j = l.length := by omega
        have hj1 : ¬ (j : Int) < (l.length : Int) := by omega
        have hjd : decide ((j : Int) < (l.length : Int)) = false := decide_eq_false hj1
        rw [hje] at HLK
        rw [show decide (l = m) = true from decide_eq_true (list_like HLM.out HLK.out)] at HR
        clear hje
        go_wp2_with fail
        first | exact HR.out _ _ rfl | exact HR.out _ _ (World.drewN_drewN _ _ _)
  · have hlb : ((l.length : Int) != (m.length : Int)) = true := by
      have : ¬ (l.length : Int) = (m.length : Int) := by omega
      simpa using this
    rw [show decide (l = m) = false from decide_eq_false (fun h => hlm (by rw [h]))] at HR
    go_enter Try.func43, Try.ntmps43
    go_wp2_with fail
    exact HR.out _ 0 rfl
set_option maxRecDepth 100000 in
theorem vector_Same (l m : List En) (A B : Option Addr) (c d : Nat) (w : World) (h1 : Row w A (flat enC l)) (h2 : Row w B (flat enC m)) (hl : l.length ≤ 140737488351232) {R : Ending → World → Prop}
    (hR : ∀ w' n, w' = w.drewN n → R (.returned (.bool (decide (l = m)))) w') :
    Calls Try.prog 42 #[.slice A l.length c, .slice B m.length d] w R := by
  have HR := Lib.hid hR
  clear hR
  go_enter Try.func42, Try.ntmps42
  go_wp2_with fail
  refine slices_Equal_Entry l m A B c d w h1 h2 hl ?_
  rintro w' n rfl
  generalize decide (l = m) = z at *
  go_wp2_with fail
  exact HR.out _ _ rfl
def smallE (l : List En) (j : Nat) : Prop := ∀ i, i < j → (l.getD i (emp, 0)).1.size ≤ 100
set_option maxHeartbeats 2000000 in
set_option maxRecDepth 100000 in
theorem ref10_Great (l : List En) (A : Option Addr) (c : Nat) (w : World) (h : Row w A (flat enC l)) {R : Ending → World → Prop}
    (hR : ∀ b, (b = false → l.length ≤ 100 ∧ smallE l l.length) → R (.returned (.bool b)) w) :
    Calls Try.prog 37 #[.slice A l.length c] w R := by
  have HR := Lib.hid hR
  clear hR
  have hl0 : (0 : Int) ≤ (l.length : Int) := Int.natCast_nonneg _
  by_cases hbig : 100 < l.length
  · have hb1 : (100 : Int) < (l.length : Int) := by omega
    have hb2 : decide ((100 : Int) < (l.length : Int)) = true := decide_eq_true hb1
    go_enter Try.func37, Try.ntmps37
    go_wp2_with fail
    exact HR.out true (fun e => by cases e)
  have hb1 : ¬ (100 : Int) < (l.length : Int) := by omega
  have hb2 : decide ((100 : Int) < (l.length : Int)) = false := decide_eq_false hb1
  go_enter Try.func37, Try.ntmps37
  go_wp2_with fail
  clear hb1 hb2
  go_loopw [3] (fun i w' => ∃ j : Nat, i = .int .i64 (j : Int) ∧ j ≤ l.length ∧ smallE l j ∧ w' = w) (fun i _ => l.length - (RowKit.intOf i).toNat)
  case atStart => exact ⟨0, rfl, Nat.zero_le _, fun i hi => absurd hi (by omega), rfl⟩
  case round =>
    obtain ⟨j, rfl, hj, hsm, rfl⟩ := hrel
    have hj0 : (0 : Int) ≤ (j : Int) := Int.natCast_nonneg _
    have HSM := Lib.hid hsm
    clear hsm
    by_cases hlt : j < l.length
    · have hj1 : (j : Int) < (l.length : Int) := by omega
      have hjd : decide ((j : Int) < (l.length : Int)) = true := decide_eq_true hj1
      obtain ⟨b, o, hA, hb, d0, d1⟩ := h.en j hlt
      obtain ⟨⟨k, m⟩, hkm⟩ : ∃ x, l.getD j (emp, 0) = x := ⟨_, rfl⟩
      rw [hkm] at d0 d1
      dsimp only at d0 d1
      subst hA
      by_cases h1 : 100 < k.size
      · have e1 : (100 : Int) < (k.size : Int) := by omega
        have e2 : decide ((100 : Int) < (k.size : Int)) = true := decide_eq_true e1
        go_wp2_with fail
        exact HR.out true (fun e => by cases e)
      · have e1 : ¬ (100 : Int) < (k.size : Int) := by omega
        have e2 : decide ((100 : Int) < (k.size : Int)) = false := decide_eq_false e1
        have hsn : smallE l (j + 1) := fun i hi => by
          by_cases c : i = j
          · subst c; rw [hkm]; show k.size ≤ 100; omega
          · exact HSM.out i (by omega)
        have HSN := Lib.hid hsn
        clear hsn hkm
        go_wp2_with fail
        go_roundw
        case rel => exact ⟨j + 1, by go_num, by omega, HSN.out, trivial⟩
        case measure => simp [RowKit.intOf]; omega
    · have hje : j = l.length := by omega
      have hj1 : ¬ (j : Int) < (l.length : Int) := by omega
      have hjd : decide ((j : Int) < (l.length : Int)) = false := decide_eq_false hj1
      rw [hje] at HSM
      clear hje
      go_wp2_with fail
      exact HR.out false (fun _ => ⟨by omega, HSM.out⟩)
/-- How many events of an actor are known. -/
def cntR (name : ByteArray) : List En → Int
  | [] => 0
  | x :: l => if x.1 = name then x.2 else cntR name l
theorem cntR_step {l : List En} {name : ByteArray} {j : Nat} (h : j < l.length) : cntR name (l.drop j) = if (l.getD j (emp, 0)).1 = name then (l.getD j (emp, 0)).2 else cntR name (l.drop (j + 1)) := by
  rw [List.drop_eq_getElem_cons h, cntR, getD_at l j _ h]
set_option maxHeartbeats 2000000 in
set_option maxRecDepth 100000 in
theorem vector_Count (l : List En) (A : Option Addr) (c : Nat) (name : ByteArray) (w : World) (h : Row w A (flat enC l)) (hl : l.length ≤ 140737488351232) {R : Ending → World → Prop}
    (hR : ∀ w', Ext (fun _ => False) w w' → R (.returned (.int .u64 (cntR name l))) w') :
    Calls Try.prog 40 #[.slice A l.length c, .string name] w R := by
  have HR := Lib.hid hR
  clear hR
  have hl0 : (0 : Int) ≤ (l.length : Int) := Int.natCast_nonneg _
  obtain ⟨v, hv⟩ : ∃ v, cntR name l = v := ⟨_, rfl⟩
  rw [hv] at HR
  have HV := Lib.hid (show cntR name (l.drop 0) = v by rw [List.drop_zero]; exact hv)
  clear hv
  go_enter Try.func40, Try.ntmps40
  go_wp2_with fail
  go_loopw [9] (fun i w' => ∃ j : Nat, i = .int .i64 (j : Int) ∧ j ≤ l.length ∧ cntR name (l.drop j) = v ∧ Ext (fun _ => False) w w') (fun i _ => l.length - (RowKit.intOf i).toNat)
  case atStart => exact ⟨0, rfl, Nat.zero_le _, HV.out, Ext.refl _ _⟩
  case round =>
    clear HV
    obtain ⟨j, rfl, hj, hvj, hx⟩ := hrel
    have hj0 : (0 : Int) ≤ (j : Int) := Int.natCast_nonneg _
    by_cases hlt : j < l.length
    · have hj1 : (j : Int) < (l.length : Int) := by omega
      have hjd : decide ((j : Int) < (l.length : Int)) = true := decide_eq_true hj1
      obtain ⟨b, o, hA, hb, d0, d1⟩ := (h.ext hx (fun _ _ _ => id)).en j hlt
      obtain ⟨⟨k, m⟩, hkm⟩ : ∃ x, l.getD j (emp, 0) = x := ⟨_, rfl⟩
      rw [cntR_step hlt, hkm] at hvj
      rw [hkm] at d0 d1
      dsimp only at d0 d1 hvj
      have hkb := toList_beq k name
      subst hA
      have hx' := hx.alloc (.cells #[.string k, .int .u64 m] 82)
      have hba := Blk.new wr 82 #[.string k, .int .u64 m]
      have HVJ := Lib.hid hvj
      clear hkm hvj
      go_upto_region 4 with fail
      generalize wr.alloc (.cells #[.string k, .int .u64 m] 82) = wa at *
      generalize wr.heap.size = bx at *
      clear d0 d1 hx
      have q0 := hba.cell 0
      have q1 := hba.cell 1
      dsimp at q0 q1
      by_cases hk : k = name
      · have hvj := HVJ.out
        rw [if_pos hk] at hvj
        rw [decide_eq_true hk] at hkb
        rw [← hvj] at HR
        clear hk hvj
        go_wp2_with fail
        exact HR.out _ hx'
      · have hvj := HVJ.out
        rw [if_neg hk] at hvj
        rw [decide_eq_false hk] at hkb
        replace HVJ := Lib.hid hvj
        clear hk hvj
        go_wp2_with fail
        go_roundw
        case rel => exact ⟨j + 1, by go_num, by omega, HVJ.out, hx'⟩
        case measure => simp [RowKit.intOf]; omega
    · have hje : j = l.length := by omega
      have hj1 : ¬ (j : Int) < (l.length : Int) := by omega
      have hjd : decide ((j : Int) < (l.length : Int)) = false := decide_eq_false hj1
      rw [hje, List.drop_of_length_le (Nat.le_refl _), cntR] at hvj
      rw [← hvj] at HR
      clear hje hvj
      go_wp2_with fail
      exact HR.out _ hx
set_option maxHeartbeats 2000000 in
set_option maxRecDepth 100000 in
theorem ref10_Count (l : List En) (A : Option Addr) (c : Nat) (name : ByteArray) (w : World) (h : Row w A (flat enC l)) (hl : l.length ≤ 140737488351232) :
    Calls Try.prog 41 #[.slice A l.length c, .string name] w fun e w' => e = .returned (.int .u64 (cntR name l)) ∧ w = w' := by
  have hl0 : (0 : Int) ≤ (l.length : Int) := Int.natCast_nonneg _
  obtain ⟨v, hv⟩ : ∃ v, cntR name l = v := ⟨_, rfl⟩
  rw [hv]
  have HV := Lib.hid (show cntR name (l.drop 0) = v by rw [List.drop_zero]; exact hv)
  clear hv
  go_enter Try.func41, Try.ntmps41
  go_wp2_with fail
  go_loopw [5] (fun i w' => ∃ j : Nat, i = .int .i64 (j : Int) ∧ j ≤ l.length ∧ Hid (cntR name (l.drop j) = v) ∧ w' = w) (fun i _ => l.length - (RowKit.intOf i).toNat)
  case atStart => exact ⟨0, rfl, Nat.zero_le _, HV, rfl⟩
  case round =>
    clear HV
    obtain ⟨j, rfl, hj, HVJ, rfl⟩ := hrel
    have hj0 : (0 : Int) ≤ (j : Int) := Int.natCast_nonneg _
    by_cases hlt : j < l.length
    · have hj1 : (j : Int) < (l.length : Int) := by omega
      have hjd : decide ((j : Int) < (l.length : Int)) = true := decide_eq_true hj1
      obtain ⟨b, o, hA, hb, d0, d1⟩ := h.en j hlt
      obtain ⟨⟨k, m⟩, hkm⟩ : ∃ x, l.getD j (emp, 0) = x := ⟨_, rfl⟩
      have hvj := HVJ.out
      rw [cntR_step hlt, hkm] at hvj
      rw [hkm] at d0 d1
      dsimp only at d0 d1 hvj
      have hkb := toList_beq k name
      subst hA
      clear hkm
      by_cases hk : k = name
      · rw [if_pos hk] at hvj
        rw [decide_eq_true hk] at hkb
        subst hvj
        clear hk HVJ
        go_wp2_with fail
        first | exact ⟨rfl, rfl⟩ | (go_ret; exact ⟨rfl, rfl⟩)
      · rw [if_neg hk] at hvj
        rw [decide_eq_false hk] at hkb
        replace HVJ := Lib.hid hvj
        clear hk hvj
        go_wp2_with fail
        go_roundw
        case rel => exact ⟨j + 1, by go_num, by omega, HVJ, trivial⟩
        case measure => simp [RowKit.intOf]; omega
    · have hje : j = l.length := by omega
      have hj1 : ¬ (j : Int) < (l.length : Int) := by omega
      have hjd : decide ((j : Int) < (l.length : Int)) = false := decide_eq_false hj1
      have hvj := HVJ.out
      rw [hje, List.drop_of_length_le (Nat.le_refl _), cntR] at hvj
      subst hvj
      clear hje HVJ
      go_wp2_with fail
      first | exact ⟨rfl, rfl⟩ | (go_ret; exact ⟨rfl, rfl⟩)
end
end Go.Proofs.Ytgjiedjfplbipaa
