/- tree.Check, spenceref21.Check, Great. -/
import Derived.Test.YtlkjonlipnmbnaaTreeMath
import Derived.Test.YtlkjonlipnmbnaaPairFind
namespace Go.Proofs.Ytlkjonlipnmbnaa
open Go.RowKit Go.Lib
section
theorem tF_step {l : List It} {j : Nat} {k m : ByteArray} (hkm : l.getD j (emp, emp) = (k, m)) (h1 : k.size = 32) (h2 : m.size = 32) (h3 : ¬ (0 < j ∧ leB k (l.getD (j - 1) (emp, emp)).1 = true)) : tF l j = 0 := by
  unfold tF; rw [hkm]; dsimp only; rw [if_neg (fun e => e ⟨h1, h2⟩), if_neg h3]
theorem tF_sz {l : List It} {j : Nat} {k m : ByteArray} (hkm : l.getD j (emp, emp) = (k, m)) (h : ¬ (k.size = 32 ∧ m.size = 32)) : tF l j = 1 := by
  unfold tF; rw [hkm]; dsimp only; rw [if_pos h]
theorem tF_ord {l : List It} {j : Nat} {k m : ByteArray} (hkm : l.getD j (emp, emp) = (k, m)) (h1 : k.size = 32) (h2 : m.size = 32) (h3 : 0 < j ∧ leB k (l.getD (j - 1) (emp, emp)).1 = true) : tF l j = 6 := by
  unfold tF; rw [hkm]; dsimp only; rw [if_neg (fun e => e ⟨h1, h2⟩), if_pos h3]
theorem checkT_stop {l : List It} {j : Nat} {e : Int} (hlt : j < l.length) (hz : firstErr (tF l) j = 0) (he : tF l j = e) (h0 : e ≠ 0) : checkT l = e := by
  unfold checkT; rw [firstErr_stop hz (by rw [he]; exact h0) l.length hlt, he]
set_option maxHeartbeats 2000000 in
set_option maxRecDepth 100000 in
theorem tree_Check (l : List It) (A : Option Addr) (c : Nat) (w : World) (h : Row w A (flat itC l)) (hl : l.length ≤ 140737488351232) {R : Ending → World → Prop}
    (hR : ∀ w', Below w.heap.size w w' → R (.returned (.int .i64 (checkT l))) w') :
    Calls Try.prog 15 #[.slice A l.length c] w R := by
  have HR := Lib.hid hR
  clear hR
  have hl0 : (0 : Int) ≤ (l.length : Int) := Int.natCast_nonneg _
  go_enter Try.func15, Try.ntmps15
  go_wp2_with fail
  go_loopw [7] (fun i w' => ∃ j : Nat, i = .int .i64 (j : Int) ∧ j ≤ l.length ∧ Hid (firstErr (tF l) j = 0) ∧ Below w.heap.size w w') (fun i _ => l.length - (RowKit.intOf i).toNat)
  case atStart => exact ⟨0, rfl, Nat.zero_le _, Lib.hid rfl, Below.refl _ _⟩
  case round =>
    obtain ⟨j, rfl, hj, HFE, hx⟩ := hrel
    have hj0 : (0 : Int) ≤ (j : Int) := Int.natCast_nonneg _
    by_cases hlt : j < l.length
    · have hj1 : (j : Int) < (l.length : Int) := by omega
      have hjd : decide ((j : Int) < (l.length : Int)) = true := decide_eq_true hj1
      have hrw := h.below hx (Nat.le_refl _)
      obtain ⟨b, o, hA, hb, d0, d1⟩ := hrw.it j hlt
      obtain ⟨⟨k, m⟩, hkm⟩ : ∃ x, l.getD j (emp, emp) = x := ⟨_, rfl⟩
      rw [hkm] at d0 d1
      dsimp only at d0 d1
      have HKM := Lib.hid hkm
      have hpr : ∀ t, t + 1 = j → ∀ w', Below wr.heap.size wr w' → w'.cell? ⟨b, o + t * 2, none⟩ = some (.string (l.getD (j - 1) (emp, emp)).1) := fun t ht w' hb' => by
        obtain ⟨b2, o2, hA2, _, g0, _⟩ := hrw.it t (by omega)
        rw [hA] at hA2
        cases hA2
        rw [show j - 1 = t by omega]
        exact cell_below hb' g0
      have HPR := Lib.hid hpr
      subst hA
      clear hkm hpr
      go_upto_region 4 with fail
      have hx' := hx.alloc hx.size (.cells #[.string k, .string m] 38)
      have hq := (Below.refl wr.heap.size wr).alloc (Nat.le_refl _) (.cells #[.string k, .string m] 38)
      have hba := Blk.new wr 38 #[.string k, .string m]
      generalize wr.alloc (.cells #[.string k, .string m] 38) = wa at *
      have q0 := hba.cell 0
      have q1 := hba.cell 1
      dsimp at q0 q1
      generalize wr.heap.size = bx at *
      clear d0 d1 hx hba hrw
      have HPR2 := Lib.hid (fun t ht => HPR.out t ht wa hq)
      clear HPR hq
      by_cases h1 : k.size = 32
      rotate_left
      · have e1 : decide (k.size = 32) = false := decide_eq_false h1
        rw [checkT_stop hlt HFE.out (tF_sz HKM.out (fun e => h1 e.1)) (by decide)] at HR
        clear h1
        go_wp2_with fail
        refine (digest_Right k _).mono ?_
        rintro e w' ⟨rfl, rfl⟩
        rw [e1]
        go_wp2_with fail
        exact HR.out _ hx'
      have e1 : decide (k.size = 32) = true := decide_eq_true h1
      by_cases h2 : m.size = 32
      rotate_left
      · have e2 : decide (m.size = 32) = false := decide_eq_false h2
        rw [checkT_stop hlt HFE.out (tF_sz HKM.out (fun e => h2 e.2)) (by decide)] at HR
        clear h1 h2
        go_wp2_with fail
        refine (digest_Right k _).mono ?_
        rintro e w' ⟨rfl, rfl⟩
        rw [e1]
        go_wp2_with fail
        refine (digest_Right m _).mono ?_
        rintro e w' ⟨rfl, rfl⟩
        rw [e2]
        go_wp2_with fail
        exact HR.out _ hx'
      have e2 : decide (m.size = 32) = true := decide_eq_true h2
      have hst : (0 < j ∧ leB k (l.getD (j - 1) (emp, emp)).1 = true) → checkT l = 6 := fun h3 => checkT_stop hlt HFE.out (tF_ord HKM.out h1 h2 h3) (by decide)
      have hnx : ¬ (0 < j ∧ leB k (l.getD (j - 1) (emp, emp)).1 = true) → firstErr (tF l) (j + 1) = 0 := fun h3 => firstErr_step HFE.out (tF_step HKM.out h1 h2 h3)
      have HST := Lib.hid hst
      have HNX := Lib.hid hnx
      clear h1 h2 hst hnx HKM
      go_wp2_with fail
      refine (digest_Right k _).mono ?_
      rintro e w' ⟨rfl, rfl⟩
      rw [e1]
      go_wp2_with fail
      refine (digest_Right m _).mono ?_
      rintro e w' ⟨rfl, rfl⟩
      rw [e2]
      clear e1 e2
      rcases Nat.eq_zero_or_pos j with hjz | hjz
      · have hz1 : ¬ (0 : Int) < (j : Int) := by omega
        have hz2 : decide ((0 : Int) < (j : Int)) = false := decide_eq_false hz1
        have hz3 : ¬ 0 < j := by omega
        have hz4 : decide (0 < j) = false := decide_eq_false hz3
        have HN := Lib.hid (HNX.out (fun e => hz3 e.1))
        clear hjz HNX HST HPR2
        go_wp2_with fail
        go_quiet (fail)
        clear hz1 hz2 hz3 hz4 q0 q1
        go_wp2_with fail
        go_roundw
        case rel => exact ⟨j + 1, by go_num, by omega, HN, below_drewN hx' _⟩
        case measure => simp [RowKit.intOf]; omega
      · have hz1 : (0 : Int) < (j : Int) := by omega
        have hz2 : decide ((0 : Int) < (j : Int)) = true := decide_eq_true hz1
        have hz4 : decide (0 < j) = true := decide_eq_true hjz
        obtain ⟨t, ht⟩ : ∃ t, t + 1 = j := ⟨j - 1, by omega⟩
        have g0 := HPR2.out t ht
        have hjw : wrap64 ((j : Int) - 1) = (t : Int) := by rw [IntWalk.wrap64_in _ ⟨by omega, by omega⟩]; omega
        have hjw2 : IntKind.i64.wrap ((j : Int) - 1) = (t : Int) := (IntWalk.i64_left _).trans hjw
        have hjl : (t : Int) < (l.length : Int) := by omega
        have hjn : (0 : Int) ≤ (t : Int) := Int.natCast_nonneg _
        obtain ⟨k', hk'⟩ : ∃ x, (l.getD (j - 1) (emp, emp)).1 = x := ⟨_, rfl⟩
        rw [hk'] at g0
        have hst := HST.out
        have hnx := HNX.out
        rw [hk'] at hst hnx
        obtain ⟨x, hx⟩ : ∃ x, Op.bytesLess k.toList k'.toList = x := ⟨_, rfl⟩
        obtain ⟨y, hy⟩ : ∃ y, (k.toList == k'.toList) = y := ⟨_, rfl⟩
        rw [leB_of hx hy] at hst hnx
        replace HST := Lib.hid hst
        replace HNX := Lib.hid hnx
        clear hst hnx hk' HPR2 ht
        cases hxy : (x || y)
        · obtain ⟨rfl, rfl⟩ : x = false ∧ y = false := by cases x <;> cases y <;> simp_all
          have HN := Lib.hid (HNX.out (fun e => by rw [hxy] at e; cases e.2))
          clear hxy HNX HST
          go_wp2_with fail
          go_quiet (fail)
          clear hz1 hz2 hz4 g0 hx hy hjw hjw2 hjl hjn q0 q1
          go_wp2_with fail
          go_roundw
          case rel => exact ⟨j + 1, by go_num, by omega, HN, below_drewN hx' _⟩
          case measure => simp [RowKit.intOf]; omega
        · rw [HST.out ⟨hjz, hxy⟩] at HR
          have hxy' : x = true ∨ (x = false ∧ y = true) := by cases x <;> cases y <;> simp_all
          clear hxy HST HNX
          rcases hxy' with rfl | ⟨rfl, rfl⟩
          all_goals
            go_wp2_with fail
            go_quiet (fail)
            go_wp2_with fail
            exact HR.out _ (below_drewN hx' _)
    · have hje : j = l.length := by omega
      have hj1 : ¬ (j : Int) < (l.length : Int) := by omega
      have hjd : decide ((j : Int) < (l.length : Int)) = false := decide_eq_false hj1
      have hfe := HFE.out
      rw [hje] at hfe
      rw [show checkT l = 0 from hfe] at HR
      clear hje hfe
      go_wp2_with fail
      exact HR.out _ hx
set_option maxHeartbeats 2000000 in
set_option maxRecDepth 100000 in
theorem ref21_Check (l : List It) (A : Option Addr) (c : Nat) (w : World) (h : Row w A (flat itC l)) (hl : l.length ≤ 140737488351232) {R : Ending → World → Prop}
    (hR : ∀ w', Below w.heap.size w w' → R (.returned (.int .i64 (checkT l))) w') :
    Calls Try.prog 16 #[.slice A l.length c] w R := by
  have HR := Lib.hid hR
  clear hR
  have hl0 : (0 : Int) ≤ (l.length : Int) := Int.natCast_nonneg _
  go_enter Try.func16, Try.ntmps16
  go_wp2_with fail
  go_loopw [3] (fun i w' => ∃ j : Nat, i = .int .i64 (j : Int) ∧ j ≤ l.length ∧ Hid (firstErr (tF l) j = 0) ∧ (∀ t, t < j → (l.getD t (emp, emp)).1.size = 32) ∧ Below w.heap.size w w') (fun i _ => l.length - (RowKit.intOf i).toNat)
  case atStart => exact ⟨0, rfl, Nat.zero_le _, Lib.hid rfl, fun t h => absurd h (by omega), Below.refl _ _⟩
  case round =>
    obtain ⟨j, rfl, hj, HFE, hsz, hx⟩ := hrel
    have HSZ := Lib.hid hsz
    clear hsz
    have hj0 : (0 : Int) ≤ (j : Int) := Int.natCast_nonneg _
    by_cases hlt : j < l.length
    · have hj1 : (j : Int) < (l.length : Int) := by omega
      have hjd : decide ((j : Int) < (l.length : Int)) = true := decide_eq_true hj1
      have hrw := h.below hx (Nat.le_refl _)
      obtain ⟨b, o, hA, hb, d0, d1⟩ := hrw.it j hlt
      obtain ⟨⟨k, m⟩, hkm⟩ : ∃ x, l.getD j (emp, emp) = x := ⟨_, rfl⟩
      rw [hkm] at d0 d1
      dsimp only at d0 d1
      have HKM := Lib.hid hkm
      have hpr : ∀ t, t + 1 = j → wr.cell? ⟨b, o + t * 2, none⟩ = some (.string (l.getD (j - 1) (emp, emp)).1) := fun t ht => by
        obtain ⟨b2, o2, hA2, _, g0, _⟩ := hrw.it t (by omega)
        rw [hA] at hA2
        cases hA2
        rw [show j - 1 = t by omega]
        exact g0
      have HPR := Lib.hid hpr
      subst hA
      clear hkm hpr hrw
      by_cases h1 : k.size = 32
      rotate_left
      · have e1 : ((k.size : Int) != 32) = true := by simp; omega
        rw [checkT_stop hlt HFE.out (tF_sz HKM.out (fun e => h1 e.1)) (by decide)] at HR
        clear h1
        go_wp2_with fail
        exact HR.out _ hx
      have e1 : ((k.size : Int) != 32) = false := by simp [h1]
      by_cases h2 : m.size = 32
      rotate_left
      · have e2 : ((m.size : Int) != 32) = true := by simp; omega
        rw [checkT_stop hlt HFE.out (tF_sz HKM.out (fun e => h2 e.2)) (by decide)] at HR
        clear h1 h2
        go_wp2_with fail
        exact HR.out _ hx
      have e2 : ((m.size : Int) != 32) = false := by simp [h2]
      have hst : (0 < j ∧ leB k (l.getD (j - 1) (emp, emp)).1 = true) → checkT l = 6 := fun h3 => checkT_stop hlt HFE.out (tF_ord HKM.out h1 h2 h3) (by decide)
      have hnx : ¬ (0 < j ∧ leB k (l.getD (j - 1) (emp, emp)).1 = true) → firstErr (tF l) (j + 1) = 0 := fun h3 => firstErr_step HFE.out (tF_step HKM.out h1 h2 h3)
      have HSZ2 : Hid (∀ t, t < j + 1 → (l.getD t (emp, emp)).1.size = 32) := Lib.hid (fun t ht => by
        by_cases e : t = j
        · rw [e, HKM.out]; exact h1
        · exact HSZ.out t (by omega))
      have HST := Lib.hid hst
      have HNX := Lib.hid hnx
      clear h1 h2 hst hnx HKM
      rcases Nat.eq_zero_or_pos j with hjz | hjz
      · have hz1 : ¬ (0 : Int) < (j : Int) := by omega
        have hz2 : decide ((0 : Int) < (j : Int)) = false := decide_eq_false hz1
        have hz3 : ¬ 0 < j := by omega
        have hz4 : decide (0 < j) = false := decide_eq_false hz3
        have HN := Lib.hid (HNX.out (fun e => hz3 e.1))
        clear hjz HNX HST HPR
        go_wp2_with fail
        go_quiet (fail)
        clear hz1 hz2 hz3 hz4 e1 e2
        go_wp2_with fail
        go_roundw
        case rel => exact ⟨j + 1, by go_num, by omega, HN, HSZ2.out, below_drewN hx _⟩
        case measure => simp [RowKit.intOf]; omega
      · have hz1 : (0 : Int) < (j : Int) := by omega
        have hz2 : decide ((0 : Int) < (j : Int)) = true := decide_eq_true hz1
        have hz4 : decide (0 < j) = true := decide_eq_true hjz
        obtain ⟨t, ht⟩ : ∃ t, t + 1 = j := ⟨j - 1, by omega⟩
        have g0 := HPR.out t ht
        have hk32 : (l.getD (j - 1) (emp, emp)).1.size = 32 := HSZ.out (j - 1) (by omega)
        have hjw : wrap64 ((j : Int) - 1) = (t : Int) := by rw [IntWalk.wrap64_in _ ⟨by omega, by omega⟩]; omega
        have hjw2 : IntKind.i64.wrap ((j : Int) - 1) = (t : Int) := (IntWalk.i64_left _).trans hjw
        have hjl : (t : Int) < (l.length : Int) := by omega
        have hjn : (0 : Int) ≤ (t : Int) := Int.natCast_nonneg _
        obtain ⟨k', hk'⟩ : ∃ x, (l.getD (j - 1) (emp, emp)).1 = x := ⟨_, rfl⟩
        rw [hk'] at g0 hk32
        have hst := HST.out
        have hnx := HNX.out
        rw [hk', leB_ltB] at hst hnx
        unfold ltB at hst hnx
        have hbl := fun W => ref06_Below k' k W (by omega)
        obtain ⟨x, hxx⟩ : ∃ x, Op.bytesLess k'.toList k.toList = x := ⟨_, rfl⟩
        rw [hxx] at hst hnx
        rw [hxx] at hbl
        replace HST := Lib.hid hst
        replace HNX := Lib.hid hnx
        clear hst hnx hk' HPR ht hk32 hxx
        cases x
        · rw [HST.out ⟨hjz, rfl⟩] at HR
          clear HST HNX
          go_wp2_with fail
          go_quiet ((first
            | (go_at_call 30; exact quiet_d (hbl _))))
          go_wp2_with fail
          exact HR.out _ (below_drewN hx _)
        · have HN := Lib.hid (HNX.out (fun e => by cases e.2))
          clear HST HNX
          go_wp2_with fail
          go_quiet ((first
            | (go_at_call 30; exact quiet_d (hbl _))))
          clear hz1 hz2 hz4 g0 hjw hjw2 hjl hjn hbl e1 e2
          go_wp2_with fail
          go_roundw
          case rel => exact ⟨j + 1, by go_num, by omega, HN, HSZ2.out, below_drewN hx _⟩
          case measure => simp [RowKit.intOf]; omega
    · have hje : j = l.length := by omega
      have hj1 : ¬ (j : Int) < (l.length : Int) := by omega
      have hjd : decide ((j : Int) < (l.length : Int)) = false := decide_eq_false hj1
      have hfe := HFE.out
      rw [hje] at hfe
      rw [show checkT l = 0 from hfe] at HR
      clear hje hfe
      go_wp2_with fail
      exact HR.out _ hx
end
end Go.Proofs.Ytlkjonlipnmbnaa
/- spenceref21.Great, Below; tree.below. -/
namespace Go.Proofs.Ytlkjonlipnmbnaa
open Go.RowKit Go.Lib
section
set_option maxHeartbeats 2000000 in
set_option maxRecDepth 100000 in
theorem ref21_Great (l : List It) (A : Option Addr) (c : Nat) (w : World) (h : Row w A (flat itC l)) {R : Ending → World → Prop}
    (hR : ∀ b, (b = false → l.length ≤ 60) → R (.returned (.bool b)) w) :
    Calls Try.prog 8 #[.slice A l.length c] w R := by
  have HR := Lib.hid hR
  clear hR
  have hl0 : (0 : Int) ≤ (l.length : Int) := Int.natCast_nonneg _
  by_cases hbig : 60 < l.length
  · have hb1 : (60 : Int) < (l.length : Int) := by omega
    have hb2 : decide ((60 : Int) < (l.length : Int)) = true := decide_eq_true hb1
    go_enter Try.func8, Try.ntmps8
    go_wp2_with fail
    exact HR.out true (fun e => by cases e)
  have hb1 : ¬ (60 : Int) < (l.length : Int) := by omega
  have hb2 : decide ((60 : Int) < (l.length : Int)) = false := decide_eq_false hb1
  go_enter Try.func8, Try.ntmps8
  go_wp2_with fail
  clear hb1 hb2
  go_loopw [3] (fun i w' => ∃ j : Nat, i = .int .i64 (j : Int) ∧ j ≤ l.length ∧ w' = w) (fun i _ => l.length - (RowKit.intOf i).toNat)
  case atStart => exact ⟨0, rfl, Nat.zero_le _, rfl⟩
  case round =>
    obtain ⟨j, rfl, hj, rfl⟩ := hrel
    have hj0 : (0 : Int) ≤ (j : Int) := Int.natCast_nonneg _
    by_cases hlt : j < l.length
    · have hj1 : (j : Int) < (l.length : Int) := by omega
      have hjd : decide ((j : Int) < (l.length : Int)) = true := decide_eq_true hj1
      obtain ⟨b, o, hA, hb, d0, d1⟩ := h.it j hlt
      obtain ⟨⟨k, m⟩, hkm⟩ : ∃ x, l.getD j (emp, emp) = x := ⟨_, rfl⟩
      rw [hkm] at d0 d1
      dsimp only at d0 d1
      subst hA
      clear hkm
      by_cases h1 : 100 < k.size
      · have e1 : (100 : Int) < (k.size : Int) := by omega
        have e2 : decide ((100 : Int) < (k.size : Int)) = true := decide_eq_true e1
        go_wp2_with fail
        exact HR.out true (fun e => by cases e)
      have e1 : ¬ (100 : Int) < (k.size : Int) := by omega
      have e2 : decide ((100 : Int) < (k.size : Int)) = false := decide_eq_false e1
      by_cases h2 : 100 < m.size
      · have e3 : (100 : Int) < (m.size : Int) := by omega
        have e4 : decide ((100 : Int) < (m.size : Int)) = true := decide_eq_true e3
        go_wp2_with fail
        exact HR.out true (fun e => by cases e)
      · have e3 : ¬ (100 : Int) < (m.size : Int) := by omega
        have e4 : decide ((100 : Int) < (m.size : Int)) = false := decide_eq_false e3
        go_wp2_with fail
        go_roundw
        case rel => exact ⟨j + 1, by go_num, by omega, trivial⟩
        case measure => simp [RowKit.intOf]; omega
    · have hj1 : ¬ (j : Int) < (l.length : Int) := by omega
      have hjd : decide ((j : Int) < (l.length : Int)) = false := decide_eq_false hj1
      go_wp2_with fail
      exact HR.out false (fun _ => by omega)
theorem infoT_it : (Try.prog.info? 38).map (fun i => (i.zero, i.size, i.bytes)) = some (some (.agg #[.string ⟨#[]⟩, .string ⟨#[]⟩]), 2, 32) := by kernel_rfl
theorem itT_one (x : It) : ∀ u ∈ itC x, u.oneCell' = true := fun u hu => by
  simp only [itC, List.mem_cons, List.not_mem_nil, or_false] at hu
  rcases hu with rfl | rfl <;> rfl
theorem below_snoc (pre : ByteArray) (l : List It) (j : Nat) (h : j < l.length) : belowR pre (l.take (j + 1)) = if beginsR (l.getD j (emp, emp)).1 pre = true then belowR pre (l.take j) ++ [l.getD j (emp, emp)] else belowR pre (l.take j) := by
  unfold belowR
  rw [List.take_succ_eq_append_getElem h, List.filter_append, getD_at l j _ h]
  by_cases hb : beginsR l[j].1 pre = true <;> simp [hb]
theorem below_len (pre : ByteArray) (l : List It) : (belowR pre l).length ≤ l.length := List.length_filter_le _ _
set_option maxHeartbeats 4000000 in
set_option maxRecDepth 100000 in
theorem ref21_Below (l : List It) (A : Option Addr) (c : Nat) (pre : ByteArray) (w : World) (h : Row w A (flat itC l)) (hl : l.length ≤ 1000000) {R : Ending → World → Prop}
    (hR : ∀ A' c' w', Own w' w.heap.size 38 2 itC (.slice A' (belowR pre l).length c') (belowR pre l) → Below w.heap.size w w' → R (.returned (.slice A' (belowR pre l).length c')) w') :
    Calls Try.prog 35 #[.slice A l.length c, .string pre] w R := by
  obtain ⟨i0, hi0, hI0, hI1, hI2⟩ := info_parts infoT_it
  have HR := Lib.hid hR
  clear hR
  have hl0 : (0 : Int) ≤ (l.length : Int) := Int.natCast_nonneg _
  go_enter Try.func35, Try.ntmps35
  go_wp2_with fail
  go_loopw [5, 6] (fun s5 i wx => ∃ (j : Nat) (A5 : Option Addr) (c5 : Nat), i = .int .i64 (j : Int) ∧ j ≤ l.length ∧ s5 = .slice A5 (belowR pre (l.take j)).length c5 ∧ Own wx w.heap.size 38 2 itC (.slice A5 (belowR pre (l.take j)).length c5) (belowR pre (l.take j)) ∧ Below w.heap.size w wx) (fun _ i _ => l.length - (RowKit.intOf i).toNat)
  case atStart => exact ⟨0, none, 0, rfl, Nat.zero_le _, rfl, Own.nil _ _ _ _, Below.refl _ _⟩
  case round =>
    obtain ⟨j, A5, c5, rfl, hj, rfl, hown, hx⟩ := hrel
    have hj0 : (0 : Int) ≤ (j : Int) := Int.natCast_nonneg _
    by_cases hlt : j < l.length
    · have hj1 : (j : Int) < (l.length : Int) := by omega
      have hjd : decide ((j : Int) < (l.length : Int)) = true := decide_eq_true hj1
      obtain ⟨b, o, hA, hb, d0, d1⟩ := (h.below hx (Nat.le_refl _)).it j hlt
      have hsn := below_snoc pre l j hlt
      have hpl := below_len pre (l.take j)
      rw [List.length_take] at hpl
      obtain ⟨⟨k, m⟩, hkm⟩ : ∃ x, l.getD j (emp, emp) = x := ⟨_, rfl⟩
      rw [hkm] at d0 d1 hsn
      dsimp only at d0 d1 hsn
      obtain ⟨P, hP⟩ : ∃ P, belowR pre (l.take j) = P := ⟨_, rfl⟩
      rw [hP] at hown hsn hpl ⊢
      have hPl : P.length ≤ 1000000 := by omega
      have HSN := Lib.hid hsn
      subst hA
      clear hkm hsn hP hpl
      have hbg := fun W => ref20_Begins k pre W
      obtain ⟨z, hz⟩ : ∃ z, beginsR k pre = z := ⟨_, rfl⟩
      rw [hz] at hbg
      have hsn := HSN.out
      rw [hz] at hsn
      replace HSN := Lib.hid hsn
      clear hz hsn
      go_wp2_with fail
      refine (hbg _).mono ?_
      rintro e w' ⟨rfl, nq, rfl⟩
      replace hx := below_drewN hx nq
      replace hown : Own (wr.drewN nq) _ _ _ _ _ _ := hown
      replace d0 : (wr.drewN nq).cell? _ = _ := d0
      replace d1 : (wr.drewN nq).cell? _ = _ := d1
      generalize wr.drewN nq = wa at *
      clear hbg
      cases z
      · have hsn := HSN.out
        rw [if_neg (by decide)] at hsn
        replace HSN := Lib.hid hsn
        clear hsn
        go_wp2_with fail
        go_roundw
        case rel => exact ⟨j + 1, A5, c5, by go_num, by omega, by rw [HSN.out], by rw [HSN.out]; exact hown, hx⟩
        case measure => simp [RowKit.intOf]; omega
      · have hsn := HSN.out
        rw [if_pos rfl] at hsn
        have HSN2 := Lib.hid hsn
        have hpl : (P ++ [(k, m)]).length = P.length + 1 := by simp
        have HPL := Lib.hid hpl
        clear hsn hpl HSN
        go_wp2_with (first
          | (at_builtin; refine wpList_append_one rfl _ _ _ (by rfl) w.heap.size 38 i0 _ 2 32 Try.underlying22 hi0 hI0 hI1 hI2 rfl (by decide) itC (.slice A5 P.length c5) P (by rfl) (hown.alloc _) (k, m) ⟨wa.heap.size, 0, none⟩ 1 (by rfl) rfl ((Blk.new _ _ _).news rfl) (itT_one _) (by unfold maxLen; omega) (by omega) (Nat.le_trans hx.size (by simp)) ?_
             intro g9 c9 w9 hown9 hx9 hst9))
        have hb9 := below_ext (hx.alloc hx.size (.cells #[.string k, .string m] 38)) (Nat.le_refl _) hx9 (fun b e => (hown.lt b e).1)
        go_roundw
        case rel => exact ⟨j + 1, some ⟨g9, 0, none⟩, c9, by go_num, by omega, by rw [HSN2.out, HPL.out], by rw [HSN2.out, HPL.out]; exact hown9, hb9⟩
        case measure => simp [RowKit.intOf]; omega
    · have hje : j = l.length := by omega
      have hj1 : ¬ (j : Int) < (l.length : Int) := by omega
      have hjd : decide ((j : Int) < (l.length : Int)) = false := decide_eq_false hj1
      rw [hje, List.take_length] at hown ⊢
      clear hje
      generalize belowR pre l = P at *
      go_wp2_with fail
      exact HR.out _ _ _ hown hx
end
end Go.Proofs.Ytlkjonlipnmbnaa
/- spenceref21.Page. -/
namespace Go.Proofs.Ytlkjonlipnmbnaa
open Go.RowKit Go.Lib
section
theorem cellsP (w : World) (r : Nat) (a b c d : Value) : Ext (· = r) w ((((w.setCell ⟨r, 0, none⟩ a).setCell ⟨r, 1, none⟩ b).setCell ⟨r, 2, none⟩ c).setCell ⟨r, 3, none⟩ d) :=
  (((Ext.self w r 0 a).setCell (p := ⟨r, 1, none⟩) (fun _ => rfl) b).setCell (p := ⟨r, 2, none⟩) (fun _ => rfl) c).setCell (p := ⟨r, 3, none⟩) (fun _ => rfl) d
theorem infoT_sl : (Try.prog.info? 33).map (fun i => (i.zero, i.size, i.bytes)) = some (some (.agg #[.int .u8 0, .string ⟨#[]⟩]), 2, 24) := by kernel_rfl
theorem pg_sb (pre : ByteArray) (l : List It) : ∀ j, j < (pgR pre l).1.sl.length → 0 ≤ ((pgR pre l).1.sl.getD j (0, emp)).1 ∧ ((pgR pre l).1.sl.getD j (0, emp)).1 < 256 := by
  by_cases hp : pre.size ≤ 31
  · by_cases hl : l.length ≤ 8
    · rw [pgR_leaf hp hl]; intro j hj; exact absurd hj (by simp)
    · rw [pgR_node hp (by omega)]
      split
      · dsimp only
        intro j hj
        have hm : (slotsT pre l 256).getD j (0, emp) ∈ slotsT pre l 256 := by rw [getD_at _ j _ hj]; exact List.getElem_mem hj
        obtain ⟨t, ht, _, he⟩ := slot_mem hm
        rw [he]
        dsimp only
        omega
      · intro j hj; exact absurd hj (by simp [noP])
  · rw [pgR_big l (by omega)]; intro j hj; exact absurd hj (by simp [noP])
theorem slT_one (x : Sl) : ∀ u ∈ slC x, u.oneCell' = true := fun u hu => by
  simp only [slC, List.mem_cons, List.not_mem_nil, or_false] at hu
  rcases hu with rfl | rfl <;> rfl
def PageRet (R : Ending → World → Prop) (w : World) (r : PgV × Bool) : Prop :=
  ∀ A1 A2 c1 c2 w', Own w' w.heap.size 33 2 slC (.slice A1 r.1.sl.length c1) r.1.sl → Own w' w.heap.size 38 2 itC (.slice A2 r.1.it.length c2) r.1.it → Below w.heap.size w w' → R (.returned (.tuple #[.agg #[.string r.1.pre, .bool r.1.leaf, .slice A1 r.1.sl.length c1, .slice A2 r.1.it.length c2], .bool r.2])) w'
set_option maxHeartbeats 8000000 in
set_option maxRecDepth 100000 in
theorem ref21_Page : ∀ (k : Nat) (pre : ByteArray) (l : List It) (A : Option Addr) (c : Nat) (w : World), 32 - pre.size = k → pre.size ≤ 1000 → Row w A (flat itC l) → l.length ≤ 100000 → ∀ {R : Ending → World → Prop}, PageRet R w (pgR pre (belowR pre l)) →
    Calls Try.prog 22 #[.string pre, .slice A l.length c] w R := by
  obtain ⟨i0, hi0, hI0, hI1, hI2⟩ := info_parts infoT_sl
  intro k
  induction k with
  | zero =>
    intro pre l A c w hk hps h hl R hR
    have hbig : 31 < pre.size := by omega
    rw [pgR_big _ hbig] at hR
    have HR := Lib.hid hR
    clear hR
    have e1 : (31 : Int) < (pre.size : Int) := by omega
    have e2 : decide ((31 : Int) < (pre.size : Int)) = true := decide_eq_true e1
    go_enter Try.func22, Try.ntmps22
    go_upto_region 1 with fail
    have hbk := Blk.new w 27 #[.string ⟨#[]⟩, .bool false, .slice none 0 0, .slice none 0 0]
    have hx := (Below.refl w.heap.size w).alloc (Nat.le_refl _) (.cells #[.string ⟨#[]⟩, .bool false, .slice none 0 0, .slice none 0 0] 27)
    generalize w.alloc (.cells #[.string ⟨#[]⟩, .bool false, .slice none 0 0, .slice none 0 0] 27) = wa at *
    have q0 := hbk.cell 0
    have q1 := hbk.cell 1
    have q2 := hbk.cell 2
    have q3 := hbk.cell 3
    have f0 := hbk.frozen 0
    have f1 := hbk.frozen 1
    have f2 := hbk.frozen 2
    have f3 := hbk.frozen 3
    dsimp at q0 q1 q2 q3
    have hge : w.heap.size ≤ w.heap.size := Nat.le_refl _
    obtain ⟨g4, hg4⟩ : ∃ g, w.heap.size = g := ⟨_, rfl⟩
    rw [hg4] at q0 q1 q2 q3 f0 f1 f2 f3 ⊢
    have HG4 := Lib.hid hg4
    clear hbig hg4 hbk
    go_wp2_with fail
    refine bodyPost_ret (v := .tuple #[.agg #[.string ⟨#[]⟩, .bool false, .slice none 0 0, .slice none 0 0], .bool false]) (by simp [results, go_sem, q0, q1, q2, q3]) rfl ?_
    have hset := cellsP wa g4 (.string ⟨#[]⟩) (.bool false) (.slice none 0 0) (.slice none 0 0)
    exact HR.out none none 0 0 _ (Own.nil _ _ _ _) (Own.nil _ _ _ _) (below_self hx hge hset (Nat.le_of_eq HG4.out))
  | succ k ih =>
    intro pre l A c w hk hps h hl R hR
    have e1 : ¬ (31 : Int) < (pre.size : Int) := by omega
    have e2 : decide ((31 : Int) < (pre.size : Int)) = false := decide_eq_false e1
    have hp31 : pre.size ≤ 31 := by omega
    have HR := Lib.hid hR
    have HK := Lib.hid hk
    have IH := Lib.hid ih
    clear hR hk ih
    go_enter Try.func22, Try.ntmps22
    go_upto_region 1 with fail
    have hbk := Blk.new w 27 #[.string ⟨#[]⟩, .bool false, .slice none 0 0, .slice none 0 0]
    have hx := (Below.refl w.heap.size w).alloc (Nat.le_refl _) (.cells #[.string ⟨#[]⟩, .bool false, .slice none 0 0, .slice none 0 0] 27)
    generalize w.alloc (.cells #[.string ⟨#[]⟩, .bool false, .slice none 0 0, .slice none 0 0] 27) = wa at *
    have hge : w.heap.size ≤ w.heap.size := Nat.le_refl _
    obtain ⟨g4, hg4⟩ : ∃ g, w.heap.size = g := ⟨_, rfl⟩
    rw [hg4] at hbk ⊢
    have HG4 := Lib.hid hg4
    clear hg4
    go_wp2_with fail
    clear e1 e2
    refine ref21_Below l A c pre wa (h.below hx (Nat.le_refl _)) (by omega) ?_
    intro A6 c6 w1 hin hb1
    have hbk1 := hbk.below hb1 hbk.lt
    have hx1 := hx.trans (hb1.mono hx.size)
    have hil := below_len pre l
    generalize belowR pre l = m at *
    have hm0 : (0 : Int) ≤ (m.length : Int) := Int.natCast_nonneg _
    have HLE := Lib.hid hx.size
    clear hb1 hbk hx h
    by_cases h8 : m.length ≤ 8
    · have e1 : (m.length : Int) ≤ 8 := by omega
      have e2 : decide ((m.length : Int) ≤ 8) = true := decide_eq_true e1
      have hr := HR.out
      rw [pgR_leaf hp31 h8] at hr
      replace HR := Lib.hid hr
      have q0 := hbk1.cell 0
      have q1 := hbk1.cell 1
      have q2 := hbk1.cell 2
      have q3 := hbk1.cell 3
      have f0 := hbk1.frozen 0
      have f1 := hbk1.frozen 1
      have f2 := hbk1.frozen 2
      have f3 := hbk1.frozen 3
      dsimp at q0 q1 q2 q3
      clear h8 hr
      go_wp2_with fail
      refine bodyPost_ret (v := .tuple #[.agg #[.string pre, .bool true, .slice none 0 0, .slice A6 m.length c6], .bool true]) (by simp [results, go_sem, q0, q1, q2, q3]) rfl ?_
      have hset := cellsP w1 g4 (.string pre) (.bool true) (.slice none 0 0) (.slice A6 m.length c6)
      have hne := hin.ne hbk1 (by decide)
      exact HR.out none A6 0 c6 _ (Own.nil _ _ _ _) ((hin.ext hset (fun g e e2 => hne (by rw [e, e2]))).mono HLE.out) (below_self hx1 hge hset (Nat.le_of_eq HG4.out))
    · have e1 : ¬ (m.length : Int) ≤ 8 := by omega
      have e2 : decide ((m.length : Int) ≤ 8) = false := decide_eq_false e1
      have hr := HR.out
      rw [pgR_node hp31 (by omega)] at hr
      replace HR := Lib.hid hr
      clear hr h8
      go_upto_region 7 with fail
      clear e1 e2
      have hx2 := hx1.alloc hx1.size (.cells #[.string pre, .bool false, .slice none 0 0, .slice none 0 0] 27)
      have hb7 := Blk.new w1 27 #[.string pre, .bool false, .slice none 0 0, .slice none 0 0]
      have hbk2 := hbk1.alloc (.cells #[.string pre, .bool false, .slice none 0 0, .slice none 0 0] 27)
      have hin2 := hin.alloc (.cells #[.string pre, .bool false, .slice none 0 0, .slice none 0 0] 27)
      have h74 : g4 ≠ w1.heap.size := fun e => by have := hbk1.lt; omega
      have hle7 : w.heap.size ≤ w1.heap.size := hx1.size
      generalize w1.alloc (.cells #[.string pre, .bool false, .slice none 0 0, .slice none 0 0] 27) = w2 at *
      generalize w1.heap.size = g7 at *
      clear hbk1 hx1 hin
      go_wp2_with fail
      go_loopw [8] (fun i wx => ∃ (b : Nat) (A7 : Option Addr) (c7 : Nat), i = .int .i64 (b : Int) ∧ b ≤ 256 ∧ Blk wx g7 27 #[.string pre, .bool false, .slice A7 (slotsT pre m b).length c7, .slice none 0 0] ∧ Own wx w.heap.size 33 2 slC (.slice A7 (slotsT pre m b).length c7) (slotsT pre m b) ∧ Blk wx g4 27 #[.string ⟨#[]⟩, .bool false, .slice none 0 0, .slice none 0 0] ∧ Own wx wa.heap.size 38 2 itC (.slice A6 m.length c6) m ∧ Hid (allOk pre m b = true) ∧ Below w.heap.size w wx) (fun i _ => 256 - (RowKit.intOf i).toNat)
      case atStart => exact ⟨0, none, 0, rfl, by decide, hb7, Own.nil _ _ _ _, hbk2, hin2, Lib.hid rfl, hx2⟩
      case round =>
        clear hb7 hbk2 hin2 hx2
        obtain ⟨b, A7, c7, rfl, hb, hb7, hown, hb4, hin, HOK, hx⟩ := hrel
        have hb0 : (0 : Int) ≤ (b : Int) := Int.natCast_nonneg _
        by_cases hlt : b < 256
        · have hj1 : (b : Int) < 256 := by omega
          have hjd : decide ((b : Int) < 256) = true := decide_eq_true hj1
          have hcv := run_string_one (P := Try.prog) 34 9 5 Try.underlying34 Try.underlying5 Try.underlying9 (b : Int) wr
          have hsl := slotsT_succ pre m b
          have hal := allOk_succ pre m b
          have hno := fun (h : okT pre m b = false) => allOk_no (pre := pre) (l := m) (n := 256) hlt h
          unfold slotT at hsl
          unfold okT at hal hno
          have hkl : (kid pre m b).length ≤ m.length := below_len _ _
          have hki : belowR (nextP pre b) (kid pre m b) = kid pre m b := below_below _ _
          have hkd : belowR (nextP pre b) m = kid pre m b := rfl
          have HSL := Lib.hid hsl
          have HAL := Lib.hid hal
          have HNO := Lib.hid hno
          have HKI := Lib.hid hki
          have HKD := Lib.hid hkd
          have hsz9 : pre.size + 1 ≤ 9223372036854775807 := by omega
          have hsz8 : ¬ 9223372036854775807 < pre.size + 1 := by omega
          clear hsl hal hno hki hkd
          go_upto_region 11 with fail
          clear hcv
          have hx3 := hx.alloc hx.size (.cells #[.int .u8 (b : Int)] 5)
          replace hown := hown.alloc (.cells #[.int .u8 (b : Int)] 5)
          replace hb7 := hb7.alloc (.cells #[.int .u8 (b : Int)] 5)
          replace hb4 := hb4.alloc (.cells #[.int .u8 (b : Int)] 5)
          replace hin := hin.alloc (.cells #[.int .u8 (b : Int)] 5)
          generalize wr.alloc (.cells #[.int .u8 (b : Int)] 5) = w3 at *
          have hnp : pre ++ (⟨#[UInt8.ofNat b]⟩ : ByteArray) = nextP pre b := rfl
          rw [hnp]
          clear hx hnp hsz9 hsz8
          have hns := nextP_size pre b
          generalize nextP pre b = nx at *
          go_wp2_with fail
          refine ref21_Below m A6 c6 nx w3 (Row.of_own hin) (by omega) ?_
          rw [HKD.out]
          intro A10 c10 w4 hkd4 hb4x
          have hx4 := hx3.trans (hb4x.mono hx3.size)
          replace hown := hown.below hb4x
          replace hin := hin.below hb4x
          replace hb7 := hb7.below hb4x hb7.lt
          replace hb4 := hb4.below hb4x hb4.lt
          clear hb4x hx3
          obtain ⟨kd, hkdE⟩ : ∃ kd, kid pre m b = kd := ⟨_, rfl⟩
          rw [hkdE] at hkd4 hkl ⊢
          have hsl := HSL.out
          have hal := HAL.out
          have hno := HNO.out
          have hki := HKI.out
          rw [hkdE] at hsl hal hno hki
          replace HSL := Lib.hid hsl
          replace HAL := Lib.hid hal
          replace HNO := Lib.hid hno
          replace HKI := Lib.hid hki
          have hk0 : (0 : Int) ≤ (kd.length : Int) := Int.natCast_nonneg _
          clear hsl hal hno hki hkdE HKD
          cases hkc : kd with
          | nil =>
            subst hkc
            have hsl := HSL.out
            have hal := HAL.out
            simp only [List.isEmpty_nil, if_true, Option.toList_none, List.append_nil] at hsl
            simp only [List.isEmpty_nil, Bool.true_or, Bool.and_true] at hal
            have HSL2 := Lib.hid hsl
            have HOK2 := Lib.hid (hal.trans HOK.out)
            clear hsl hal HSL HAL HNO HKI
            go_wp2_with fail
            go_roundw
            case rel => exact ⟨b + 1, A7, c7, by go_num, by omega, by rw [HSL2.out]; exact hb7, by rw [HSL2.out]; exact hown, hb4, hin, HOK2, hx4⟩
            case measure => simp [RowKit.intOf]; omega
          | cons x r =>
            have hke : kd.isEmpty = false := by rw [hkc]; rfl
            have hkz : ((kd.length : Int) == 0) = false := by rw [hkc]; simp; omega
            rw [← hkc]
            have hsl := HSL.out
            have hal := HAL.out
            have hno := HNO.out
            rw [hke] at hsl hal hno
            simp only [Bool.false_eq_true, if_false, Option.toList_some, Bool.false_or] at hsl hal hno
            replace HSL := Lib.hid hsl
            replace HAL := Lib.hid hal
            replace HNO := Lib.hid hno
            clear hsl hal hno hke hkc
            go_wp2_with fail
            clear hkz
            refine IH.out nx kd A10 c10 w4 (by have := HK.out; omega) (by omega) (Row.of_own hkd4) (by omega) ?_
            rw [HKI.out]
            have hsb := pg_sb nx kd
            obtain ⟨⟨g, ok⟩, hg⟩ : ∃ g, pgR nx kd = g := ⟨_, rfl⟩
            have hsl := HSL.out
            have hal := HAL.out
            have hno := HNO.out
            rw [hg] at hsl hal hno hsb ⊢
            dsimp only at hsl hal hno hsb
            have HSB := Lib.hid hsb
            clear hsb
            replace HSL := Lib.hid hsl
            replace HAL := Lib.hid hal
            replace HNO := Lib.hid hno
            clear hsl hal hno hg HKI
            intro B1 B2 d1 d2 w5 hs1 hs2 hb5
            dsimp only at hs1 hs2 ⊢
            have hr1 := Row.of_own hs1
            have hr2 := Row.of_own hs2
            clear hs1 hs2
            have hx5 := hx4.trans (hb5.mono hx4.size)
            replace hown := hown.below hb5
            replace hin := hin.below hb5
            replace hb7 := hb7.below hb5 hb7.lt
            replace hb4 := hb4.below hb5 hb4.lt
            clear hx4 hb5 hkd4
            cases ok
            · have hr := HR.out
              rw [HNO.out rfl, if_neg (by decide)] at hr
              replace HR := Lib.hid hr
              go_upto_region 14 with fail
              have hx6 := hx5.alloc hx5.size (.cells #[.string g.pre, .bool g.leaf, .slice B1 g.sl.length d1, .slice B2 g.it.length d2] 27)
              replace hb4 := hb4.alloc (.cells #[.string g.pre, .bool g.leaf, .slice B1 g.sl.length d1, .slice B2 g.it.length d2] 27)
              clear hx5 hr1 hr2 hown hin hb7 hr
              generalize w5.alloc (.cells #[.string g.pre, .bool g.leaf, .slice B1 g.sl.length d1, .slice B2 g.it.length d2] 27) = w6 at *
              have q0 := hb4.cell 0
              have q1 := hb4.cell 1
              have q2 := hb4.cell 2
              have q3 := hb4.cell 3
              have f0 := hb4.frozen 0
              have f1 := hb4.frozen 1
              have f2 := hb4.frozen 2
              have f3 := hb4.frozen 3
              dsimp at q0 q1 q2 q3
              go_wp2_with fail
              refine bodyPost_ret (v := .tuple #[.agg #[.string ⟨#[]⟩, .bool false, .slice none 0 0, .slice none 0 0], .bool false]) (by simp [results, go_sem, q0, q1, q2, q3]) rfl ?_
              have hset := cellsP w6 g4 (.string ⟨#[]⟩) (.bool false) (.slice none 0 0) (.slice none 0 0)
              exact HR.out none none 0 0 _ (Own.nil _ _ _ _) (Own.nil _ _ _ _) (below_self hx6 hge hset (Nat.le_of_eq HG4.out))
            · go_upto_region 16 with fail
              have hq := (Below.refl w5.heap.size w5).alloc (Nat.le_refl _) (.cells #[.string g.pre, .bool g.leaf, .slice B1 g.sl.length d1, .slice B2 g.it.length d2] 27)
              have hx6 := hx5.alloc hx5.size (.cells #[.string g.pre, .bool g.leaf, .slice B1 g.sl.length d1, .slice B2 g.it.length d2] 27)
              have hbc := Blk.new w5 27 #[.string g.pre, .bool g.leaf, .slice B1 g.sl.length d1, .slice B2 g.it.length d2]
              replace hb4 := hb4.alloc (.cells #[.string g.pre, .bool g.leaf, .slice B1 g.sl.length d1, .slice B2 g.it.length d2] 27)
              replace hb7 := hb7.alloc (.cells #[.string g.pre, .bool g.leaf, .slice B1 g.sl.length d1, .slice B2 g.it.length d2] 27)
              replace hown := hown.alloc (.cells #[.string g.pre, .bool g.leaf, .slice B1 g.sl.length d1, .slice B2 g.it.length d2] 27)
              replace hin := hin.alloc (.cells #[.string g.pre, .bool g.leaf, .slice B1 g.sl.length d1, .slice B2 g.it.length d2] 27)
              replace hr1 := hr1.below hq (Nat.le_refl _)
              replace hr2 := hr2.below hq (Nat.le_refl _)
              clear hx5 hq
              generalize w5.alloc (.cells #[.string g.pre, .bool g.leaf, .slice B1 g.sl.length d1, .slice B2 g.it.length d2] 27) = w6 at *
              have p0 := hbc.cell 0
              have p1 := hbc.cell 1
              have p2 := hbc.cell 2
              have p3 := hbc.cell 3
              dsimp at p0 p1 p2 p3
              generalize w5.heap.size = bz at *
              clear hbc
              go_wp2_with fail
              refine ref20_Mark g B1 B2 d1 d2 w6 hr1 hr2 HSB.out ?_
              intro w7 hb7x
              have hsl := HSL.out
              generalize (pmkR g).1 = mk at *
              generalize (pmkR g).2 = me at *
              replace HSL := Lib.hid hsl
              have hx7 := hx6.trans (hb7x.mono hx6.size)
              replace hb4 := hb4.below hb7x hb4.lt
              replace hb7 := hb7.below hb7x hb7.lt
              replace hown := hown.below hb7x
              replace hin := hin.below hb7x
              clear hsl p0 p1 p2 p3 hr1 hr2 hb7x hx6
              have hsln := slots_len pre m b
              obtain ⟨P, hP⟩ : ∃ P, slotsT pre m b = P := ⟨_, rfl⟩
              have hsl := HSL.out
              rw [hP] at hsl hown hb7 hsln
              replace HSL := Lib.hid hsl
              clear hsl hP
              have hb7' := hb7.alloc (.cells #[.int .u8 (b : Int), .string mk] 33)
              have c0 := hb7'.cell 0
              have c1' := hb7.cell 2
              have c2 := hb7'.cell 2
              dsimp at c0 c1' c2
              have hown' := hown.alloc (.cells #[.int .u8 (b : Int), .string mk] 33)
              have hn7 := hown'.ne hb7' (by decide)
              have hpl : (P ++ [((b : Int), mk)]).length = P.length + 1 := by simp
              have HPL := Lib.hid hpl
              clear hpl
              have hal : allOk pre m (b + 1) = true := by rw [HAL.out, HOK.out]; rfl
              have HOK2 := Lib.hid hal
              have hb4' := hb4.alloc (.cells #[.int .u8 (b : Int), .string mk] 33)
              have hin' := hin.alloc (.cells #[.int .u8 (b : Int), .string mk] 33)
              clear hal HAL HNO HOK hown hin hb4
              have hPb : P.length ≤ 256 := by omega
              clear hsln
              go_wp2_with (first
                | (at_builtin; refine wpList_append_one rfl _ _ _ (by rfl) w.heap.size 33 i0 _ 2 24 Try.underlying25 hi0 hI0 hI1 hI2 rfl (by decide) slC (.slice A7 P.length c7) P (by rfl) hown' ((b : Int), mk) ⟨w7.heap.size, 0, none⟩ 1 (by rfl) rfl ((Blk.new _ _ _).news rfl) (slT_one _) (by unfold maxLen; omega) (by omega) (Nat.le_trans hx7.size (by simp)) ?_
                   intro g9 c9 w9 hown9 hx9 hst9
                   have hb79 := hb7'.ext hx9 hn7
                   have k2 := hb79.cell 2
                   have kf := hb79.frozen 2
                   dsimp at k2))
              have hx8 := hx7.alloc hx7.size (.cells #[.int .u8 (b : Int), .string mk] 33)
              have hx9b := below_ext hx8 (Nat.le_refl _) hx9 (fun b e => (hown'.lt b e).1)
              have hb49 := hb4'.ext hx9 (hown'.ne hb4' (by decide))
              have hin9 := hin'.ext hx9 (hown'.off hin' (by decide))
              have hset := Ext.self w9 g7 2 (.slice (some ⟨g9, 0, none⟩) (P.length + 1) c9)
              have hown10 := hown9.ext hset (fun g e e2 => hown9.ne hb79 (by decide) (by rw [e, e2]))
              have hin10 := hin9.ext hset (fun g e e2 => hin9.ne hb79 (by decide) (by rw [e, e2]))
              have hb410 := hb49.far (p := ⟨g7, 2, none⟩) h74 (.slice (some ⟨g9, 0, none⟩) (P.length + 1) c9)
              have hb710 := hb79.set 2 (.slice (some ⟨g9, 0, none⟩) (P.length + 1) c9)
              have hx10 := below_self hx9b (Nat.le_refl _) hset hle7
              clear hx8 hx9b hb49 hin9 hset hown9 hb79 k2 kf hx9 hst9 hb7' hb4' hown' hin' hn7 c0 c1' c2 hx7 hb7
              go_roundw
              case rel => exact ⟨b + 1, some ⟨g9, 0, none⟩, c9, by go_num, by omega, by rw [HSL.out, HPL.out]; exact hb710, by rw [HSL.out, HPL.out]; exact hown10, hb410, hin10, HOK2, hx10⟩
              case measure => simp [RowKit.intOf]; omega
        · have hbe : b = 256 := by omega
          have hj1 : ¬ (b : Int) < 256 := by omega
          have hjd : decide ((b : Int) < 256) = false := decide_eq_false hj1
          rw [hbe] at hb7 hown
          have hok := HOK.out
          rw [hbe] at hok
          have hr := HR.out
          rw [hok, if_pos rfl] at hr
          replace HR := Lib.hid hr
          clear hok hr HOK hbe
          generalize slotsT pre m 256 = P at *
          have p0 := hb7.cell 0
          have p1 := hb7.cell 1
          have p2 := hb7.cell 2
          have p3 := hb7.cell 3
          have q0 := hb4.cell 0
          have q1 := hb4.cell 1
          have q2 := hb4.cell 2
          have q3 := hb4.cell 3
          have f0 := hb4.frozen 0
          have f1 := hb4.frozen 1
          have f2 := hb4.frozen 2
          have f3 := hb4.frozen 3
          dsimp at p0 p1 p2 p3 q0 q1 q2 q3
          go_wp2_with fail
          refine bodyPost_ret (v := .tuple #[.agg #[.string pre, .bool false, .slice A7 P.length c7, .slice none 0 0], .bool true]) (by simp [results, go_sem, q0, q1, q2, q3]) rfl ?_
          have hset := cellsP wr g4 (.string pre) (.bool false) (.slice A7 P.length c7) (.slice none 0 0)
          have hne := hown.ne hb4 (by decide)
          exact HR.out A7 none c7 0 _ (hown.ext hset (fun g e e2 => hne (by rw [e, e2]))) (Own.nil _ _ _ _) (below_self hx hge hset (Nat.le_of_eq HG4.out))
end
end Go.Proofs.Ytlkjonlipnmbnaa
/- Parts of a sorted list of items; tree.below, plainly. -/
namespace Go.Proofs.Ytlkjonlipnmbnaa
open Go.RowKit Go.Lib
section
theorem less_pre (p r : List UInt8) : Op.bytesLess (p ++ r) p = false := by
  have := less_app p r []
  rw [List.append_nil] at this
  rw [this]
  cases r <;> rfl
theorem begins_ge {k pre : ByteArray} (h : beginsR k pre = true) : ltB k pre = false := by
  obtain ⟨r, hr⟩ := begins_iff.1 h
  unfold ltB
  rw [ByteArray.toList_eq, ByteArray.toList_eq, ← hr]
  exact less_pre _ _
theorem pre_between : ∀ (p x r : List UInt8), Op.bytesLess x p = false → (Op.bytesLess x (p ++ r) = true ∨ x = p ++ r) → p <+: x
  | [], x, r, _, _ => List.nil_prefix
  | c :: p, [], r, h, _ => by simp [Op.bytesLess] at h
  | c :: p, d :: x, r, h1, h2 => by
    by_cases e : d = c
    · subst e
      have h1' : Op.bytesLess x p = false := by simpa [Op.bytesLess] using h1
      have h2' : Op.bytesLess x (p ++ r) = true ∨ x = p ++ r := by
        rcases h2 with h2 | h2
        · left; simpa [Op.bytesLess] using h2
        · right; simpa using h2
      obtain ⟨q, hq⟩ := pre_between p x r h1' h2'
      exact ⟨q, by rw [← hq]; rfl⟩
    · rcases h2 with h2 | h2
      · simp [Op.bytesLess, e] at h1 h2
        have a1 := UInt8.lt_iff_toNat_lt.1 h2
        have a2 := UInt8.le_iff_toNat_le.1 h1
        omega
      · simp at h2; exact absurd h2.1 e
/-- A key between the prefix and a key that begins with it begins with it. -/
theorem begins_mid {k k2 pre : ByteArray} (h1 : ltB k pre = false) (h2 : beginsR k2 pre = true) (h3 : ltB k k2 = true) : beginsR k pre = true := by
  obtain ⟨r, hr⟩ := begins_iff.1 h2
  unfold ltB at h1 h3
  rw [ByteArray.toList_eq, ByteArray.toList_eq] at h1 h3
  rw [← hr] at h3
  exact begins_iff.2 (pre_between _ _ r h1 (.inl h3))
theorem list_three_parts {α : Type} (l : List α) (i n : Nat) : l = l.take i ++ ((l.drop i).take n ++ l.drop (i + n)) := by
  rw [← List.drop_drop, List.take_append_drop, List.take_append_drop]
theorem below_slice {pre : ByteArray} {l : List It} (hs : Srt kT l) {i t : Nat} (hit : i ≤ t) (htl : t ≤ l.length) (h1 : ∀ u, u < i → ltB (l.getD u (emp, emp)).1 pre = true) (h2 : ∀ u, i ≤ u → u < l.length → ltB (l.getD u (emp, emp)).1 pre = false)
    (h3 : ∀ u, i ≤ u → u < t → beginsR (l.getD u (emp, emp)).1 pre = true) (h4 : t < l.length → beginsR (l.getD t (emp, emp)).1 pre = false) : belowR pre l = (l.drop i).take (t - i) := by
  unfold belowR
  conv => lhs; rw [list_three_parts l i (t - i)]
  rw [List.filter_append, List.filter_append]
  have e1 : (l.take i).filter (fun x => beginsR x.1 pre) = [] := List.filter_eq_nil_iff.2 (fun x hx => by
    obtain ⟨u, hu, rfl⟩ := List.getElem_of_mem hx
    rw [List.length_take] at hu
    have := h1 u (by omega)
    rw [getD_at l u _ (by omega)] at this
    rw [List.getElem_take]
    intro hb
    rw [begins_ge hb] at this
    cases this)
  have e2 : ((l.drop i).take (t - i)).filter (fun x => beginsR x.1 pre) = (l.drop i).take (t - i) := List.filter_eq_self.2 (fun x hx => by
    obtain ⟨u, hu, rfl⟩ := List.getElem_of_mem hx
    rw [List.length_take, List.length_drop] at hu
    have := h3 (i + u) (by omega) (by omega)
    rw [getD_at l (i + u) _ (by omega)] at this
    rw [List.getElem_take, List.getElem_drop]
    exact this)
  have e3 : (l.drop (i + (t - i))).filter (fun x => beginsR x.1 pre) = [] := List.filter_eq_nil_iff.2 (fun x hx => by
    obtain ⟨u, hu, rfl⟩ := List.getElem_of_mem hx
    rw [List.length_drop] at hu
    rw [List.getElem_drop]
    intro hb
    have ht : t < l.length := by omega
    by_cases e : u = 0
    · subst e
      have := h4 ht
      rw [getD_at l t _ ht] at this
      rw [show l[i + (t - i) + 0] = l[t] by congr 1; omega, this] at hb
      cases hb
    · have hlt := Srt.adj (d := (emp, emp)) hs t (i + (t - i) + u) (by omega) (by omega)
      rw [getD_at l (i + (t - i) + u) _ (by omega)] at hlt
      have := begins_mid (h2 t hit ht) hb hlt
      rw [h4 ht] at this
      cases this)
  rw [e1, e2, e3]
  simp
/-- A part of a row. -/
theorem Row.part {w : World} {b o : Nat} {l : List It} (h : Row w (some ⟨b, o, none⟩) (flat itC l)) (i n : Nat) : Row w (some ⟨b, o + i * 2, none⟩) (flat itC ((l.drop i).take n)) := by
  by_cases hn : (l.drop i).take n = []
  · rw [hn]; exact .inl rfl
  · have hp : 0 < ((l.drop i).take n).length := List.length_pos_iff.2 hn
    rw [List.length_take, List.length_drop] at hp
    have hb : b < w.heap.size := by
      obtain ⟨_, _, he, hb, _⟩ := h.at_ itC_len (by decide) 0 (by omega)
      cases he
      exact hb
    refine .inr ⟨b, o + i * 2, rfl, hb, fun j u hu => ?_⟩
    have hj : j < ((l.drop i).take n).length * 2 := by
      have := (List.getElem?_eq_some_iff.1 hu).1
      rwa [flat_length itC_len] at this
    have hq : j / 2 < ((l.drop i).take n).length := Nat.div_lt_of_lt_mul (by omega)
    have hjj : j / 2 * 2 + j % 2 = j := Nat.div_add_mod' j 2
    have hg := flat_get itC_len ((l.drop i).take n) (j / 2) hq (j % 2) (Nat.mod_lt _ (by decide))
    rw [hjj, hu, List.getElem_take, List.getElem_drop] at hg
    rw [List.length_take, List.length_drop] at hq
    obtain ⟨_, _, he, _, hc⟩ := h.at_ itC_len (by decide) (i + j / 2) (by omega)
    cases he
    have := hc (j % 2) u hg.symm
    rw [show o + i * 2 + j = o + ((i + j / 2) * 2 + j % 2) by omega]
    exact this
theorem Row.sliced {w : World} {A : Option Addr} {l : List It} (h : Row w A (flat itC l)) (i n m : Nat) (hm : i + n ≤ m) (hl : i + n ≤ l.length) :
    ∃ A', (Go.sliced A i (i + n) m 2) = .slice A' n (m - i) ∧ Row w A' (flat itC ((l.drop i).take n)) := by
  unfold Go.sliced
  rw [Nat.add_sub_cancel_left]
  refine ⟨_, rfl, ?_⟩
  by_cases e : m = i
  · obtain rfl : n = 0 := by omega
    rw [List.take_zero]; exact .inl rfl
  · rw [if_neg e]
    by_cases hn : n = 0
    · rw [hn, List.take_zero]; exact .inl rfl
    · obtain ⟨b, o, hA, _, _⟩ := h.at_ itC_len (by decide) 0 (by omega)
      rw [hA] at h ⊢
      have := h.part i n
      show Row w (some ((⟨b, o, none⟩ : Addr).add (i * 2))) _
      rw [show (⟨b, o, none⟩ : Addr).add (i * 2) = ⟨b, o + i * 2, none⟩ by unfold Addr.add; split <;> simp_all]
      exact this
end
end Go.Proofs.Ytlkjonlipnmbnaa
/- tree.below. -/
namespace Go.Proofs.Ytlkjonlipnmbnaa
open Go.RowKit Go.Lib
section
set_option maxRecDepth 100000 in
theorem tree_cmp (x : It) (name : ByteArray) (w : World) {R : Ending → World → Prop}
    (hR : ∀ w', Ext (fun _ => False) w w' → R (.returned (.int .i64 (cmpR x.1 name))) w') :
    Calls Try.prog 39 #[.agg #[.string x.1, .string x.2], .string name] w R := by
  have HR := Lib.hid hR
  clear hR
  go_enter Try.func39, Try.ntmps39
  go_wp2_with fail
  refine (strings_Compare x.1 name _).mono ?_
  rintro e w' ⟨rfl, rfl⟩
  go_wp2_with fail
  exact HR.out _ ((Ext.refl _ _).alloc _)
set_option maxHeartbeats 2000000 in
set_option maxRecDepth 100000 in
theorem bsearch_It (l : List It) (A : Option Addr) (c : Nat) (name : ByteArray) (i : Nat) (w : World) (h : Row w A (flat itC l)) (hl : l.length ≤ 140737488351232) (hi : i ≤ l.length)
    (h1 : ∀ t, t < i → Op.bytesLess (l.getD t (emp, emp)).1.toList name.toList = true) (h2 : ∀ t, i ≤ t → t < l.length → Op.bytesLess (l.getD t (emp, emp)).1.toList name.toList = false) {R : Ending → World → Prop}
    (hR : ∀ w', Ext (fun _ => False) w w' → R (.returned (.tuple #[.int .i64 (i : Int), .bool (decide (i < l.length ∧ (l.getD i (emp, emp)).1 = name))])) w') :
    Calls Try.prog 38 #[.slice A l.length c, .string name, .func (.func 39) #[] #[]] w R := by
  have HR := Lib.hid hR
  have H1 := Lib.hid h1
  have H2 := Lib.hid h2
  clear hR h1 h2
  have hl0 : (0 : Int) ≤ (l.length : Int) := Int.natCast_nonneg _
  go_enter Try.func38, Try.ntmps38
  go_wp2_with fail
  go_loopw [9, 10] (fun lo hi w' => ∃ a b : Nat, lo = .int .i64 (a : Int) ∧ hi = .int .i64 (b : Int) ∧ a ≤ i ∧ i ≤ b ∧ b ≤ l.length ∧ Ext (fun _ => False) w w') (fun lo hi _ => (RowKit.intOf hi).toNat - (RowKit.intOf lo).toNat)
  case atStart => exact ⟨0, l.length, rfl, rfl, Nat.zero_le _, hi, Nat.le_refl _, Ext.refl _ _⟩
  case round =>
    obtain ⟨a, b, rfl, rfl, ha, hb, hbl, hx⟩ := hrel
    have ha0 : (0 : Int) ≤ (a : Int) := Int.natCast_nonneg _
    have hb0 : (0 : Int) ≤ (b : Int) := Int.natCast_nonneg _
    by_cases hlt : a < b
    · have hlt1 : (a : Int) < (b : Int) := by omega
      have hlt2 : decide ((a : Int) < (b : Int)) = true := decide_eq_true hlt1
      obtain ⟨m, hm⟩ : ∃ m, (a + b) / 2 = m := ⟨_, rfl⟩
      have hm1 : a ≤ m ∧ m < b := by omega
      have hmz : ((a : Int) + (b : Int)) / 2 = (m : Int) := by omega
      have hw1 : wrap64 ((a : Int) + (b : Int)) = (a : Int) + (b : Int) := by unfold wrap64; omega
      have hw2 : IntKind.u64.wrap ((a : Int) + (b : Int)) = (a : Int) + (b : Int) := by rw [IntKind.wrap_u64]; omega
      have hw3 : wrap64 (m : Int) = (m : Int) := by unfold wrap64; omega
      have hml : (m : Int) < (l.length : Int) := by omega
      have hmn : (0 : Int) ≤ (m : Int) := Int.natCast_nonneg _
      have hrw := h.ext hx (fun _ _ _ => id)
      obtain ⟨bb, o, hA, hbb, d0, d1⟩ := hrw.it m (by omega)
      obtain ⟨⟨k, v⟩, hkm⟩ : ∃ x, l.getD m (emp, emp) = x := ⟨_, rfl⟩
      rw [hkm] at d0 d1
      dsimp only at d0 d1
      have hd1 : Op.bytesLess k.toList name.toList = true → m < i := fun e => Nat.not_le.1 (fun c => by
        have := H2.out m c (by omega)
        rw [hkm, e] at this
        cases this)
      have hd2 : Op.bytesLess k.toList name.toList = false → i ≤ m := fun e => Nat.not_lt.1 (fun c => by
        have := H1.out m c
        rw [hkm, e] at this
        cases this)
      have hcl := cmpR_lt k name
      have HD1 := Lib.hid hd1
      have HD2 := Lib.hid hd2
      have HCL := Lib.hid hcl
      subst hA
      clear hd1 hd2 hcl hkm hm
      go_wp2_with fail
      refine tree_cmp (k, v) name wr ?_
      dsimp only
      intro w1 hx1
      replace hx := hx.trans hx1 (fun _ _ h => h)
      have hcl := HCL.out
      generalize cmpR k name = cr at *
      cases hL : Op.bytesLess k.toList name.toList
      · have hc1 : ¬ cr < 0 := by
          intro e
          have := hcl.1 e
          rw [hL] at this
          cases this
        have hc2 : decide (cr < 0) = false := decide_eq_false hc1
        have him := HD2.out hL
        clear hcl hL HCL
        go_wp2_with fail
        go_roundw
        case rel => exact ⟨a, m, rfl, by first | rfl | go_num, ha, him, by omega, hx⟩
        case measure => simp [RowKit.intOf]; omega
      · have hc1 : cr < 0 := hcl.2 hL
        have hc2 : decide (cr < 0) = true := decide_eq_true hc1
        have him := HD1.out hL
        clear hcl hL HCL
        go_wp2_with fail
        go_roundw
        case rel => exact ⟨m + 1, b, by first | rfl | go_num, rfl, by omega, hb, hbl, hx⟩
        case measure => simp [RowKit.intOf]; omega
    · obtain rfl : a = b := by omega
      obtain rfl : a = i := by omega
      have hlt1 : ¬ (a : Int) < (a : Int) := by omega
      have hlt2 : decide ((a : Int) < (a : Int)) = false := decide_eq_false hlt1
      by_cases hal : a < l.length
      · have hal1 : (a : Int) < (l.length : Int) := by omega
        have hal2 : decide ((a : Int) < (l.length : Int)) = true := decide_eq_true hal1
        have hrw := h.ext hx (fun _ _ _ => id)
        obtain ⟨bb, o, hA, hbb, d0, d1⟩ := hrw.it a hal
        obtain ⟨⟨k, v⟩, hkm⟩ : ∃ x, l.getD a (emp, emp) = x := ⟨_, rfl⟩
        rw [hkm] at d0 d1 HR
        dsimp only at d0 d1 HR
        rw [show decide (a < l.length ∧ k = name) = decide (cmpR k name = 0) by rw [decide_eq_decide, cmpR_eq]; exact ⟨fun h => h.2, fun h => ⟨hal, h⟩⟩] at HR
        subst hA
        clear hkm hlt
        go_wp2_with fail
        refine tree_cmp (k, v) name wr ?_
        dsimp only
        intro w1 hx1
        replace hx := hx.trans hx1 (fun _ _ h => h)
        generalize cmpR k name = cr at *
        have hcz := int_beq cr 0
        generalize decide (cr = 0) = z at *
        go_wp2_with fail
        exact HR.out _ hx
      · have hal1 : ¬ (a : Int) < (l.length : Int) := by omega
        have hal2 : decide ((a : Int) < (l.length : Int)) = false := decide_eq_false hal1
        rw [show decide (a < l.length ∧ (l.getD a (emp, emp)).1 = name) = false from decide_eq_false (fun h => hal h.1)] at HR
        go_wp2_with fail
        exact HR.out _ hx
set_option maxHeartbeats 2000000 in
set_option maxRecDepth 100000 in
theorem tree_below2 (l : List It) (A : Option Addr) (c : Nat) (pre : ByteArray) (w : World) (h : Row w A (flat itC l)) (hs : TOk l) (hl : l.length ≤ 100000) (hc : l.length ≤ c) {R : Ending → World → Prop}
    (hR : ∀ A' c' w', (∀ W, Row W A (flat itC l) → Row W A' (flat itC (belowR pre l))) → (belowR pre l).length ≤ c' → Below w.heap.size w w' → R (.returned (.slice A' (belowR pre l).length c')) w') :
    Calls Try.prog 24 #[.slice A l.length c, .string pre] w R := by
  have HR := Lib.hid hR
  clear hR
  have hl0 : (0 : Int) ≤ (l.length : Int) := Int.natCast_nonneg _
  obtain ⟨i, hi⟩ : ∃ i, posK kT pre l = i := ⟨_, rfl⟩
  have hil : i ≤ l.length := by rw [← hi]; exact posK_le l
  have h1 : ∀ t, t < i → ltB (l.getD t (emp, emp)).1 pre = true := fun t ht => posK_lt (d := (emp, emp)) (key := kT) l t (by rw [hi]; exact ht)
  have h2 : ∀ t, i ≤ t → t < l.length → ltB (l.getD t (emp, emp)).1 pre = false := fun t ht htl => posK_ge (d := (emp, emp)) (key := kT) l hs.srt t (by rw [hi]; exact ht) htl
  have HS := Lib.hid hs
  have H1 := Lib.hid h1
  have H2 := Lib.hid h2
  have hi0 : (0 : Int) ≤ (i : Int) := Int.natCast_nonneg _
  clear hi h1 h2 hs
  go_enter Try.func24, Try.ntmps24
  go_wp2_with fail
  refine bsearch_It l A c pre i w h (by omega) hil H1.out H2.out ?_
  intro w1 hx1
  have hb1 := hx1.below (Nat.le_refl _) (fun _ _ => id)
  clear hx1
  generalize decide (i < l.length ∧ (l.getD i (emp, emp)).1 = pre) = z at *
  go_wp2_with fail
  go_loopw [7] (fun s7 wx => ∃ t : Nat, s7 = .int .i64 (t : Int) ∧ i ≤ t ∧ t ≤ l.length ∧ Hid (∀ u, i ≤ u → u < t → beginsR (l.getD u (emp, emp)).1 pre = true) ∧ Below w.heap.size w wx) (fun s7 _ => l.length - (RowKit.intOf s7).toNat)
  case atStart => exact ⟨i, rfl, Nat.le_refl _, hil, Lib.hid (fun u h1 h2 => absurd h2 (by omega)), hb1⟩
  case round =>
    clear hb1
    obtain ⟨t, rfl, hit, htl, HB, hx⟩ := hrel
    have ht0 : (0 : Int) ≤ (t : Int) := Int.natCast_nonneg _
    by_cases hlt : t < l.length
    · have hj1 : (t : Int) < (l.length : Int) := by omega
      have hjd : decide ((t : Int) < (l.length : Int)) = true := decide_eq_true hj1
      obtain ⟨b, o, hA, hb, d0, d1⟩ := (h.below hx (Nat.le_refl _)).it t hlt
      obtain ⟨⟨k, m⟩, hkm⟩ : ∃ x, l.getD t (emp, emp) = x := ⟨_, rfl⟩
      rw [hkm] at d0 d1
      dsimp only at d0 d1
      have hnx : beginsR k pre = true → ∀ u, i ≤ u → u < t + 1 → beginsR (l.getD u (emp, emp)).1 pre = true := fun hb u h1 h2 => by
        by_cases e : u = t
        · rw [e, hkm]; exact hb
        · exact HB.out u h1 (by omega)
      have hen : beginsR k pre = false → belowR pre l = (l.drop i).take (t - i) := fun hb => below_slice HS.out.srt hit htl H1.out H2.out HB.out (fun _ => by rw [hkm]; exact hb)
      have HNX := Lib.hid hnx
      have HEN := Lib.hid hen
      subst hA
      clear hkm hnx hen
      have hbg := fun W => strings_HasPrefix k pre W
      generalize beginsR k pre = y at *
      go_wp2_with fail
      refine (hbg _).mono ?_
      rintro e w' ⟨rfl, nq, rfl⟩
      clear hbg
      replace hx := below_drewN hx nq
      clear d0 d1
      generalize wr.drewN nq = wa at *
      cases y
      · have hbe := HEN.out rfl
        have hs2 : ∀ W, Row W (some ⟨b, o, none⟩) (flat itC l) → Row W (some ⟨b, o + i * 2, none⟩) (flat itC (belowR pre l)) := fun W hW => by rw [hbe]; exact hW.part i (t - i)
        have hln : (belowR pre l).length = t - i := by rw [hbe, List.length_take, List.length_drop]; omega
        have ht1 : (i : Int) ≤ (t : Int) := by omega
        have ht2 : (t : Int) ≤ (c : Int) := by omega
        have hci : ¬ c = i := by omega
        have hf := HR.out _ (c - i) wa hs2 (by omega) hx
        rw [hln] at hf
        have HF := Lib.hid hf
        clear hbe HEN HNX hs2 hln hf
        go_wp2_with fail
        exact HF.out
      · have HN := Lib.hid (HNX.out rfl)
        clear HEN HNX
        go_wp2_with fail
        go_roundw
        case rel => exact ⟨t + 1, by go_num, by omega, by omega, HN, hx⟩
        case measure => simp [RowKit.intOf]; omega
    · have hte : t = l.length := by omega
      have hj1 : ¬ (t : Int) < (l.length : Int) := by omega
      have hjd : decide ((t : Int) < (l.length : Int)) = false := decide_eq_false hj1
      have hbe := below_slice (pre := pre) (t := t) HS.out.srt hit htl H1.out H2.out HB.out (fun h => absurd h hlt)
      have hln : (belowR pre l).length = t - i := by rw [hbe, List.length_take, List.length_drop]; omega
      have ht1 : (i : Int) ≤ (t : Int) := by omega
      have ht2 : (t : Int) ≤ (c : Int) := by omega
      by_cases h0 : i = t
      · have hnil : belowR pre l = [] := List.eq_nil_of_length_eq_zero (by omega)
        have hf := fun A' c' => HR.out A' c' wr (fun W _ => by rw [hnil]; exact .inl rfl) (by omega) hx
        rw [hln] at hf
        have HF := Lib.hid hf
        clear hbe hln hf hnil hte h0
        go_wp2_with fail
        all_goals exact HF.out _ _
      · obtain ⟨b, o, hA, _, _⟩ := (h.below hx (Nat.le_refl _)).it i (by omega)
        subst hA
        have hs2 : ∀ W, Row W (some ⟨b, o, none⟩) (flat itC l) → Row W (some ⟨b, o + i * 2, none⟩) (flat itC (belowR pre l)) := fun W hW => by rw [hbe]; exact hW.part i (t - i)
        have hci : ¬ c = i := by omega
        have hf := HR.out _ (c - i) wr hs2 (by omega) hx
        rw [hln] at hf
        have HF := Lib.hid hf
        clear hbe hs2 hln hf hte h0
        go_wp2_with fail
        exact HF.out
theorem tree_below (l : List It) (A : Option Addr) (c : Nat) (pre : ByteArray) (w : World) (h : Row w A (flat itC l)) (hs : TOk l) (hl : l.length ≤ 100000) (hc : l.length ≤ c) {R : Ending → World → Prop}
    (hR : ∀ A' c' w', Row w' A' (flat itC (belowR pre l)) → (belowR pre l).length ≤ c' → Below w.heap.size w w' → R (.returned (.slice A' (belowR pre l).length c')) w') :
    Calls Try.prog 24 #[.slice A l.length c, .string pre] w R :=
  tree_below2 l A c pre w h hs hl hc (fun A' c' w' hr hc' hb => hR A' c' w' (hr w' (h.below hb (Nat.le_refl _))) hc' hb)
end
end Go.Proofs.Ytlkjonlipnmbnaa
