/- tree.Check, spenceref21.Check, Great. -/
import Derived.Test.YtlkjonlipnmbnaaTreeMath
namespace Go.Proofs.Ytlkjonlipnmbnaa
open Go.RowKit Go.Lib
section
theorem tF_step {l : List It} {j : Nat} {k m : ByteArray} (hkm : l.getD j (emp, emp) = (k, m)) (h1 : k.size = 32) (h2 : m.size = 32) (h3 : ¬ (0 < j ∧ leB k (l.getD (j - 1) (emp, emp)).1 = true)) : tF l j = 0 := by
  unfold tF; rw [hkm]; dsimp only; rw [if_neg (fun e => e ⟨h1, h2⟩), if_neg h3]
theorem tF_sz {l : List It} {j : Nat} {k m : ByteArray} (hkm : l.getD j (emp, emp) = (k, m)) (h : ¬ (k.size = 32 ∧ m.size = 32)) : tF l j = 1 := by
  unfold tF; rw [hkm]; dsimp only; rw [if_pos h]
theorem tF_ord {l : List It} {j : Nat} {k m : ByteArray} (hkm : l.getD j (emp, emp) = (k, m)) (h1 : k.size = 32) (h2 : m.size = 32) (h3 : 0 < j ∧ leB k (l.getD (j - 1) (emp, emp)).1 = true) : tF l j = 6 := by
  unfold tF; rw [hkm]; dsimp only; rw [if_neg (fun e => e ⟨h1, h2⟩), if_pos h3]
theorem checkT_stop {l : List It} {j : Nat} {e : Int} (hlt : j < l.length) (hz : firstErr (tF l) j = 0) (he : tF l j = e) (h0 : e ≠ 0) : checkT l = e := by
  unfold checkT; rw [firstErr_stop hz (by rw [he]; exact h0) l.length hlt, he]
set_option maxHeartbeats 2000000 in
set_option maxRecDepth 100000 in
theorem tree_Check (l : List It) (A : Option Addr) (c : Nat) (w : World) (h : Row w A (flat itC l)) (hl : l.length ≤ 140737488351232) {R : Ending → World → Prop}
    (hR : ∀ w', Below w.heap.size w w' → R (.returned (.int .i64 (checkT l))) w') :
    Calls Try.prog 15 #[.slice A l.length c] w R := by
  have HR := Lib.hid hR
  clear hR
  have hl0 : (0 : Int) ≤ (l.length : Int) := Int.natCast_nonneg _
  go_enter Try.func15, Try.ntmps15
  go_wp2_with fail
  go_loopw [7] (fun i w' => ∃ j : Nat, i = .int .i64 (j : Int) ∧ j ≤ l.length ∧ Hid (firstErr (tF l) j = 0) ∧ Below w.heap.size w w') (fun i _ => l.length - (RowKit.intOf i).toNat)
  case atStart => exact ⟨0, rfl, Nat.zero_le _, Lib.hid rfl, Below.refl _ _⟩
  case round =>
    obtain ⟨j, rfl, hj, HFE, hx⟩ := hrel
    have hj0 : (0 : Int) ≤ (j : Int) := Int.natCast_nonneg _
    by_cases hlt : j < l.length
    · have hj1 : (j : Int) < (l.length : Int) := by omega
      have hjd : decide ((j : Int) < (l.length : Int)) = true := decide_eq_true hj1
      have hrw := h.below hx (Nat.le_refl _)
      obtain ⟨b, o, hA, hb, d0, d1⟩ := hrw.it j hlt
      obtain ⟨⟨k, m⟩, hkm⟩ : ∃ x, l.getD j (emp, emp) = x := ⟨_, rfl⟩
      rw [hkm] at d0 d1
      dsimp only at d0 d1
      have HKM := Lib.hid hkm
      have hpr : ∀ t, t + 1 = j → ∀ w', Below wr.heap.size wr w' → w'.cell? ⟨b, o + t * 2, none⟩ = some (.string (l.getD (j - 1) (emp, emp)).1) := fun t ht w' hb' => by
        obtain ⟨b2, o2, hA2, _, g0, _⟩ := hrw.it t (by omega)
        rw [hA] at hA2
        cases hA2
        rw [show j - 1 = t by omega]
        exact cell_below hb' g0
      have HPR := Lib.hid hpr
      subst hA
      clear hkm hpr
      go_upto_region 4 with fail
      have hx' := hx.alloc hx.size (.cells #[.string k, .string m] 38)
      have hq := (Below.refl wr.heap.size wr).alloc (Nat.le_refl _) (.cells #[.string k, .string m] 38)
      have hba := Blk.new wr 38 #[.string k, .string m]
      generalize wr.alloc (.cells #[.string k, .string m] 38) = wa at *
      have q0 := hba.cell 0
      have q1 := hba.cell 1
      dsimp at q0 q1
      generalize wr.heap.size = bx at *
      clear d0 d1 hx hba hrw
      have HPR2 := Lib.hid (fun t ht => HPR.out t ht wa hq)
      clear HPR hq
      by_cases h1 : k.size = 32
      rotate_left
      · have e1 : decide (k.size = 32) = false := decide_eq_false h1
        rw [checkT_stop hlt HFE.out (tF_sz HKM.out (fun e => h1 e.1)) (by decide)] at HR
        clear h1
        go_wp2_with fail
        refine (digest_Right k _).mono ?_
        rintro e w' ⟨rfl, rfl⟩
        rw [e1]
        go_wp2_with fail
        exact HR.out _ hx'
      have e1 : decide (k.size = 32) = true := decide_eq_true h1
      by_cases h2 : m.size = 32
      rotate_left
      · have e2 : decide (m.size = 32) = false := decide_eq_false h2
        rw [checkT_stop hlt HFE.out (tF_sz HKM.out (fun e => h2 e.2)) (by decide)] at HR
        clear h1 h2
        go_wp2_with fail
        refine (digest_Right k _).mono ?_
        rintro e w' ⟨rfl, rfl⟩
        rw [e1]
        go_wp2_with fail
        refine (digest_Right m _).mono ?_
        rintro e w' ⟨rfl, rfl⟩
        rw [e2]
        go_wp2_with fail
        exact HR.out _ hx'
      have e2 : decide (m.size = 32) = true := decide_eq_true h2
      have hst : (0 < j ∧ leB k (l.getD (j - 1) (emp, emp)).1 = true) → checkT l = 6 := fun h3 => checkT_stop hlt HFE.out (tF_ord HKM.out h1 h2 h3) (by decide)
      have hnx : ¬ (0 < j ∧ leB k (l.getD (j - 1) (emp, emp)).1 = true) → firstErr (tF l) (j + 1) = 0 := fun h3 => firstErr_step HFE.out (tF_step HKM.out h1 h2 h3)
      have HST := Lib.hid hst
      have HNX := Lib.hid hnx
      clear h1 h2 hst hnx HKM
      go_wp2_with fail
      refine (digest_Right k _).mono ?_
      rintro e w' ⟨rfl, rfl⟩
      rw [e1]
      go_wp2_with fail
      refine (digest_Right m _).mono ?_
      rintro e w' ⟨rfl, rfl⟩
      rw [e2]
      clear e1 e2
      rcases Nat.eq_zero_or_pos j with hjz | hjz
      · have hz1 : ¬ (0 : Int) < (j : Int) := by omega
        have hz2 : decide ((0 : Int) < (j : Int)) = false := decide_eq_false hz1
        have hz3 : ¬ 0 < j := by omega
        have hz4 : decide (0 < j) = false := decide_eq_false hz3
        have HN := Lib.hid (HNX.out (fun e => hz3 e.1))
        clear hjz HNX HST HPR2
        go_wp2_with fail
        go_quiet (fail)
        clear hz1 hz2 hz3 hz4 q0 q1
        go_wp2_with fail
        go_roundw
        case rel => exact ⟨j + 1, by go_num, by omega, HN, below_drewN hx' _⟩
        case measure => simp [RowKit.intOf]; omega
      · have hz1 : (0 : Int) < (j : Int) := by omega
        have hz2 : decide ((0 : Int) < (j : Int)) = true := decide_eq_true hz1
        have hz4 : decide (0 < j) = true := decide_eq_true hjz
        obtain ⟨t, ht⟩ : ∃ t, t + 1 = j := ⟨j - 1, by omega⟩
        have g0 := HPR2.out t ht
        have hjw : wrap64 ((j : Int) - 1) = (t : Int) := by rw [IntWalk.wrap64_in _ ⟨by omega, by omega⟩]; omega
        have hjw2 : IntKind.i64.wrap ((j : Int) - 1) = (t : Int) := (IntWalk.i64_left _).trans hjw
        have hjl : (t : Int) < (l.length : Int) := by omega
        have hjn : (0 : Int) ≤ (t : Int) := Int.natCast_nonneg _
        obtain ⟨k', hk'⟩ : ∃ x, (l.getD (j - 1) (emp, emp)).1 = x := ⟨_, rfl⟩
        rw [hk'] at g0
        have hst := HST.out
        have hnx := HNX.out
        rw [hk'] at hst hnx
        obtain ⟨x, hx⟩ : ∃ x, Op.bytesLess k.toList k'.toList = x := ⟨_, rfl⟩
        obtain ⟨y, hy⟩ : ∃ y, (k.toList == k'.toList) = y := ⟨_, rfl⟩
        rw [leB_of hx hy] at hst hnx
        replace HST := Lib.hid hst
        replace HNX := Lib.hid hnx
        clear hst hnx hk' HPR2 ht
        cases hxy : (x || y)
        · obtain ⟨rfl, rfl⟩ : x = false ∧ y = false := by cases x <;> cases y <;> simp_all
          have HN := Lib.hid (HNX.out (fun e => by rw [hxy] at e; cases e.2))
          clear hxy HNX HST
          go_wp2_with fail
          go_quiet (fail)
          clear hz1 hz2 hz4 g0 hx hy hjw hjw2 hjl hjn q0 q1
          go_wp2_with fail
          go_roundw
          case rel => exact ⟨j + 1, by go_num, by omega, HN, below_drewN hx' _⟩
          case measure => simp [RowKit.intOf]; omega
        · rw [HST.out ⟨hjz, hxy⟩] at HR
          have hxy' : x = true ∨ (x = false ∧ y = true) := by cases x <;> cases y <;> simp_all
          clear hxy HST HNX
          rcases hxy' with rfl | ⟨rfl, rfl⟩
          all_goals
            go_wp2_with fail
            go_quiet (fail)
            go_wp2_with fail
            exact HR.out _ (below_drewN hx' _)
    · have hje : j = l.length := by omega
      have hj1 : ¬ (j : Int) < (l.length : Int) := by omega
      have hjd : decide ((j : Int) < (l.length : Int)) = false := decide_eq_false hj1
      have hfe := HFE.out
      rw [hje] at hfe
      rw [show checkT l = 0 from hfe] at HR
      clear hje hfe
      go_wp2_with fail
      exact HR.out _ hx
set_option maxHeartbeats 2000000 in
set_option maxRecDepth 100000 in
theorem ref21_Check (l : List It) (A : Option Addr) (c : Nat) (w : World) (h : Row w A (flat itC l)) (hl : l.length ≤ 140737488351232) {R : Ending → World → Prop}
    (hR : ∀ w', Below w.heap.size w w' → R (.returned (.int .i64 (checkT l))) w') :
    Calls Try.prog 16 #[.slice A l.length c] w R := by
  have HR := Lib.hid hR
  clear hR
  have hl0 : (0 : Int) ≤ (l.length : Int) := Int.natCast_nonneg _
  go_enter Try.func16, Try.ntmps16
  go_wp2_with fail
  go_loopw [3] (fun i w' => ∃ j : Nat, i = .int .i64 (j : Int) ∧ j ≤ l.length ∧ Hid (firstErr (tF l) j = 0) ∧ (∀ t, t < j → (l.getD t (emp, emp)).1.size = 32) ∧ Below w.heap.size w w') (fun i _ => l.length - (RowKit.intOf i).toNat)
  case atStart => exact ⟨0, rfl, Nat.zero_le _, Lib.hid rfl, fun t h => absurd h (by omega), Below.refl _ _⟩
  case round =>
    obtain ⟨j, rfl, hj, HFE, hsz, hx⟩ := hrel
    have HSZ := Lib.hid hsz
    clear hsz
    have hj0 : (0 : Int) ≤ (j : Int) := Int.natCast_nonneg _
    by_cases hlt : j < l.length
    · have hj1 : (j : Int) < (l.length : Int) := by omega
      have hjd : decide ((j : Int) < (l.length : Int)) = true := decide_eq_true hj1
      have hrw := h.below hx (Nat.le_refl _)
      obtain ⟨b, o, hA, hb, d0, d1⟩ := hrw.it j hlt
      obtain ⟨⟨k, m⟩, hkm⟩ : ∃ x, l.getD j (emp, emp) = x := ⟨_, rfl⟩
      rw [hkm] at d0 d1
      dsimp only at d0 d1
      have HKM := Lib.hid hkm
      have hpr : ∀ t, t + 1 = j → wr.cell? ⟨b, o + t * 2, none⟩ = some (.string (l.getD (j - 1) (emp, emp)).1) := fun t ht => by
        obtain ⟨b2, o2, hA2, _, g0, _⟩ := hrw.it t (by omega)
        rw [hA] at hA2
        cases hA2
        rw [show j - 1 = t by omega]
        exact g0
      have HPR := Lib.hid hpr
      subst hA
      clear hkm hpr hrw
      by_cases h1 : k.size = 32
      rotate_left
      · have e1 : ((k.size : Int) != 32) = true := by simp; omega
        rw [checkT_stop hlt HFE.out (tF_sz HKM.out (fun e => h1 e.1)) (by decide)] at HR
        clear h1
        go_wp2_with fail
        exact HR.out _ hx
      have e1 : ((k.size : Int) != 32) = false := by simp [h1]
      by_cases h2 : m.size = 32
      rotate_left
      · have e2 : ((m.size : Int) != 32) = true := by simp; omega
        rw [checkT_stop hlt HFE.out (tF_sz HKM.out (fun e => h2 e.2)) (by decide)] at HR
        clear h1 h2
        go_wp2_with fail
        exact HR.out _ hx
      have e2 : ((m.size : Int) != 32) = false := by simp [h2]
      have hst : (0 < j ∧ leB k (l.getD (j - 1) (emp, emp)).1 = true) → checkT l = 6 := fun h3 => checkT_stop hlt HFE.out (tF_ord HKM.out h1 h2 h3) (by decide)
      have hnx : ¬ (0 < j ∧ leB k (l.getD (j - 1) (emp, emp)).1 = true) → firstErr (tF l) (j + 1) = 0 := fun h3 => firstErr_step HFE.out (tF_step HKM.out h1 h2 h3)
      have HSZ2 : Hid (∀ t, t < j + 1 → (l.getD t (emp, emp)).1.size = 32) := Lib.hid (fun t ht => by
        by_cases e : t = j
        · rw [e, HKM.out]; exact h1
        · exact HSZ.out t (by omega))
      have HST := Lib.hid hst
      have HNX := Lib.hid hnx
      clear h1 h2 hst hnx HKM
      rcases Nat.eq_zero_or_pos j with hjz | hjz
      · have hz1 : ¬ (0 : Int) < (j : Int) := by omega
        have hz2 : decide ((0 : Int) < (j : Int)) = false := decide_eq_false hz1
        have hz3 : ¬ 0 < j := by omega
        have hz4 : decide (0 < j) = false := decide_eq_false hz3
        have HN := Lib.hid (HNX.out (fun e => hz3 e.1))
        clear hjz HNX HST HPR
        go_wp2_with fail
        go_quiet (fail)
        clear hz1 hz2 hz3 hz4 e1 e2
        go_wp2_with fail
        go_roundw
        case rel => exact ⟨j + 1, by go_num, by omega, HN, HSZ2.out, below_drewN hx _⟩
        case measure => simp [RowKit.intOf]; omega
      · have hz1 : (0 : Int) < (j : Int) := by omega
        have hz2 : decide ((0 : Int) < (j : Int)) = true := decide_eq_true hz1
        have hz4 : decide (0 < j) = true := decide_eq_true hjz
        obtain ⟨t, ht⟩ : ∃ t, t + 1 = j := ⟨j - 1, by omega⟩
        have g0 := HPR.out t ht
        have hk32 : (l.getD (j - 1) (emp, emp)).1.size = 32 := HSZ.out (j - 1) (by omega)
        have hjw : wrap64 ((j : Int) - 1) = (t : Int) := by rw [IntWalk.wrap64_in _ ⟨by omega, by omega⟩]; omega
        have hjw2 : IntKind.i64.wrap ((j : Int) - 1) = (t : Int) := (IntWalk.i64_left _).trans hjw
        have hjl : (t : Int) < (l.length : Int) := by omega
        have hjn : (0 : Int) ≤ (t : Int) := Int.natCast_nonneg _
        obtain ⟨k', hk'⟩ : ∃ x, (l.getD (j - 1) (emp, emp)).1 = x := ⟨_, rfl⟩
        rw [hk'] at g0 hk32
        have hst := HST.out
        have hnx := HNX.out
        rw [hk', leB_ltB] at hst hnx
        unfold ltB at hst hnx
        have hbl := fun W => ref06_Below k' k W (by omega)
        obtain ⟨x, hxx⟩ : ∃ x, Op.bytesLess k'.toList k.toList = x := ⟨_, rfl⟩
        rw [hxx] at hst hnx
        rw [hxx] at hbl
        replace HST := Lib.hid hst
        replace HNX := Lib.hid hnx
        clear hst hnx hk' HPR ht hk32 hxx
        cases x
        · rw [HST.out ⟨hjz, rfl⟩] at HR
          clear HST HNX
          go_wp2_with fail
          go_quiet ((first
            | (go_at_call 30; exact quiet_d (hbl _))))
          go_wp2_with fail
          exact HR.out _ (below_drewN hx _)
        · have HN := Lib.hid (HNX.out (fun e => by cases e.2))
          clear HST HNX
          go_wp2_with fail
          go_quiet ((first
            | (go_at_call 30; exact quiet_d (hbl _))))
          clear hz1 hz2 hz4 g0 hjw hjw2 hjl hjn hbl e1 e2
          go_wp2_with fail
          go_roundw
          case rel => exact ⟨j + 1, by go_num, by omega, HN, HSZ2.out, below_drewN hx _⟩
          case measure => simp [RowKit.intOf]; omega
    · have hje : j = l.length := by omega
      have hj1 : ¬ (j : Int) < (l.length : Int) := by omega
      have hjd : decide ((j : Int) < (l.length : Int)) = false := decide_eq_false hj1
      have hfe := HFE.out
      rw [hje] at hfe
      rw [show checkT l = 0 from hfe] at HR
      clear hje hfe
      go_wp2_with fail
      exact HR.out _ hx
end
end Go.Proofs.Ytlkjonlipnmbnaa
