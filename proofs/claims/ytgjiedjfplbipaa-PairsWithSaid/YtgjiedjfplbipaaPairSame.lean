/- pairs.Same, spenceref14.Same, spenceref14.Great. -/
import Derived.Test.YtgjiedjfplbipaaPairMath
import Derived.Test.YtgjiedjfplbipaaRef20Same
namespace Go.Proofs.Ytgjiedjfplbipaa
open Go.RowKit Go.Lib
section
set_option maxHeartbeats 2000000 in
set_option maxRecDepth 100000 in
theorem slices_Equal_Pair (l m : List It) (A B : Option Addr) (c d : Nat) (w : World) (h1 : Row w A (flat itC l)) (h2 : Row w B (flat itC m)) (hl : l.length ≤ 140737488351232) {R : Ending → World → Prop}
    (hR : ∀ w' n, w' = w.drewN n → R (.returned (.bool (decide (l = m)))) w') :
    Calls Try.prog 72 #[.slice A l.length c, .slice B m.length d] w R := by
  have HR := Lib.hid hR
  clear hR
  have hl0 : (0 : Int) ≤ (l.length : Int) := Int.natCast_nonneg _
  by_cases hlm : l.length = m.length
  · have hlb : ((l.length : Int) != (m.length : Int)) = false := by simp [hlm]
    have HLM := Lib.hid hlm
    clear hlm
    go_enter Try.func72, Try.ntmps72
    go_wp2_with fail
    go_loopw [13] (SmRel ((emp, emp) : It) w l m) (fun i _ => l.length - (RowKit.intOf i).toNat)
    case atStart => exact ⟨0, 0, rfl, Nat.zero_le _, fun k h => absurd h (by omega), rfl⟩
    case round =>
      obtain ⟨j, n, rfl, hj, hlk, rfl⟩ := hrel
      have hj0 : (0 : Int) ≤ (j : Int) := Int.natCast_nonneg _
      have HLK := Lib.hid hlk
      clear hlk
      by_cases hlt : j < l.length
      · have hj1 : (j : Int) < (l.length : Int) := by omega
        have hjd : decide ((j : Int) < (l.length : Int)) = true := decide_eq_true hj1
        have hlt' : j < m.length := by rw [← HLM.out]; exact hlt
        have hj2 : (j : Int) < (m.length : Int) := by omega
        have hjd2 : decide ((j : Int) < (m.length : Int)) = true := decide_eq_true hj2
        obtain ⟨b, o, hA, hb, e0, e1⟩ := h1.it j hlt
        obtain ⟨b', o', hA', hb', f0, f1⟩ := h2.it j hlt'
        obtain ⟨⟨k, t⟩, hkm⟩ : ∃ x, l.getD j ((emp, emp) : It) = x := ⟨_, rfl⟩
        obtain ⟨⟨k', t'⟩, hkm'⟩ : ∃ x, m.getD j ((emp, emp) : It) = x := ⟨_, rfl⟩
        rw [hkm] at e0 e1
        rw [hkm'] at f0 f1
        dsimp only at e0 e1 f0 f1
        have hmb := toList_beq t t'
        have hkb := toList_beq k k'
        subst hA hA'
        by_cases hxy : k = k' ∧ t = t'
        · rw [decide_eq_true hxy.1] at hkb
          rw [decide_eq_true hxy.2] at hmb
          have hnx : ∀ i, i < j + 1 → l.getD i ((emp, emp) : It) = m.getD i ((emp, emp) : It) := fun i hi => by
            by_cases e : i = j
            · rw [e, hkm, hkm', hxy.1, hxy.2]
            · exact HLK.out i (by omega)
          have HNX := Lib.hid hnx
          clear hnx hxy hkm hkm'
          go_wp2_with fail
          go_quiet (fail)
          go_wp2
          go_roundw
          case rel => exact ⟨j + 1, _, by go_num, by omega, HNX.out, rfl⟩
          case measure => simp [RowKit.intOf]; omega
        · have hsm : decide (l = m) = false := by
            refine decide_eq_false (fun h => hxy ?_)
            rw [h, hkm'] at hkm
            exact ⟨congrArg Prod.fst hkm.symm, congrArg Prod.snd hkm.symm⟩
          rw [hsm] at HR
          clear hsm hkm hkm'
          by_cases hk : k = k'
          · have hm : ¬ t = t' := fun e => hxy ⟨hk, e⟩
            rw [decide_eq_true hk] at hkb
            rw [decide_eq_false hm] at hmb
            clear hxy hk hm
            go_wp2_with fail
            go_quiet (fail)
            go_wp2_with fail
            first | exact HR.out _ _ rfl | exact HR.out _ _ (World.drewN_drewN _ _ _)
          · rw [decide_eq_false hk] at hkb
            clear hxy hk hmb
            go_wp2_with fail
            go_quiet (fail)
            go_wp2_with fail
            first | exact HR.out _ _ rfl | exact HR.out _ _ (World.drewN_drewN _ _ _)
      · have hje : j = l.length := by omega
        have hj1 : ¬ (j : Int) < (l.length : Int) := by omega
        have hjd : decide ((j : Int) < (l.length : Int)) = false := decide_eq_false hj1
        rw [hje] at HLK
        rw [show decide (l = m) = true from decide_eq_true (list_like HLM.out HLK.out)] at HR
        clear hje
        go_wp2_with fail
        first | exact HR.out _ _ rfl | exact HR.out _ _ (World.drewN_drewN _ _ _)
  · have hlb : ((l.length : Int) != (m.length : Int)) = true := by
      have : ¬ (l.length : Int) = (m.length : Int) := by omega
      simpa using this
    rw [show decide (l = m) = false from decide_eq_false (fun h => hlm (by rw [h]))] at HR
    go_enter Try.func72, Try.ntmps72
    go_wp2_with fail
    exact HR.out _ 0 rfl
set_option maxHeartbeats 2000000 in
set_option maxRecDepth 100000 in
theorem ref14_Same (l m : List It) (A B : Option Addr) (c d : Nat) (w : World) (h1 : Row w A (flat itC l)) (h2 : Row w B (flat itC m)) (hl : l.length ≤ 140737488351232) {R : Ending → World → Prop}
    (hR : ∀ w' n, w' = w.drewN n → R (.returned (.bool (decide (l = m)))) w') :
    Calls Try.prog 18 #[.slice A l.length c, .slice B m.length d] w R := by
  have HR := Lib.hid hR
  clear hR
  have hl0 : (0 : Int) ≤ (l.length : Int) := Int.natCast_nonneg _
  by_cases hlm : l.length = m.length
  · have hlb : ((l.length : Int) != (m.length : Int)) = false := by simp [hlm]
    have HLM := Lib.hid hlm
    clear hlm
    go_enter Try.func18, Try.ntmps18
    go_wp2_with fail
    go_loopw [5] (SmRel ((emp, emp) : It) w l m) (fun i _ => l.length - (RowKit.intOf i).toNat)
    case atStart => exact ⟨0, 0, rfl, Nat.zero_le _, fun k h => absurd h (by omega), rfl⟩
    case round =>
      obtain ⟨j, n, rfl, hj, hlk, rfl⟩ := hrel
      have hj0 : (0 : Int) ≤ (j : Int) := Int.natCast_nonneg _
      have HLK := Lib.hid hlk
      clear hlk
      by_cases hlt : j < l.length
      · have hj1 : (j : Int) < (l.length : Int) := by omega
        have hjd : decide ((j : Int) < (l.length : Int)) = true := decide_eq_true hj1
        have hlt' : j < m.length := by rw [← HLM.out]; exact hlt
        have hj2 : (j : Int) < (m.length : Int) := by omega
        have hjd2 : decide ((j : Int) < (m.length : Int)) = true := decide_eq_true hj2
        obtain ⟨b, o, hA, hb, e0, e1⟩ := h1.it j hlt
        obtain ⟨b', o', hA', hb', f0, f1⟩ := h2.it j hlt'
        obtain ⟨⟨k, t⟩, hkm⟩ : ∃ x, l.getD j ((emp, emp) : It) = x := ⟨_, rfl⟩
        obtain ⟨⟨k', t'⟩, hkm'⟩ : ∃ x, m.getD j ((emp, emp) : It) = x := ⟨_, rfl⟩
        rw [hkm] at e0 e1
        rw [hkm'] at f0 f1
        dsimp only at e0 e1 f0 f1
        have hmb := toList_beq t t'
        have hkb := toList_beq k k'
        subst hA hA'
        by_cases hxy : k = k' ∧ t = t'
        · rw [decide_eq_true hxy.1] at hkb
          rw [decide_eq_true hxy.2] at hmb
          have hnx : ∀ i, i < j + 1 → l.getD i ((emp, emp) : It) = m.getD i ((emp, emp) : It) := fun i hi => by
            by_cases e : i = j
            · rw [e, hkm, hkm', hxy.1, hxy.2]
            · exact HLK.out i (by omega)
          have HNX := Lib.hid hnx
          clear hnx hxy hkm hkm'
          go_wp2_with fail
          go_quiet (fail)
          go_wp2
          go_roundw
          case rel => exact ⟨j + 1, _, by go_num, by omega, HNX.out, rfl⟩
          case measure => simp [RowKit.intOf]; omega
        · have hsm : decide (l = m) = false := by
            refine decide_eq_false (fun h => hxy ?_)
            rw [h, hkm'] at hkm
            exact ⟨congrArg Prod.fst hkm.symm, congrArg Prod.snd hkm.symm⟩
          rw [hsm] at HR
          clear hsm hkm hkm'
          by_cases hk : k = k'
          · have hm : ¬ t = t' := fun e => hxy ⟨hk, e⟩
            rw [decide_eq_true hk] at hkb
            rw [decide_eq_false hm] at hmb
            clear hxy hk hm
            go_wp2_with fail
            go_quiet (fail)
            go_wp2_with fail
            first | exact HR.out _ _ rfl | exact HR.out _ _ (World.drewN_drewN _ _ _)
          · rw [decide_eq_false hk] at hkb
            clear hxy hk hmb
            go_wp2_with fail
            go_quiet (fail)
            go_wp2_with fail
            first | exact HR.out _ _ rfl | exact HR.out _ _ (World.drewN_drewN _ _ _)
      · have hje : j = l.length := by omega
        have hj1 : ¬ (j : Int) < (l.length : Int) := by omega
        have hjd : decide ((j : Int) < (l.length : Int)) = false := decide_eq_false hj1
        rw [hje] at HLK
        rw [show decide (l = m) = true from decide_eq_true (list_like HLM.out HLK.out)] at HR
        clear hje
        go_wp2_with fail
        first | exact HR.out _ _ rfl | exact HR.out _ _ (World.drewN_drewN _ _ _)
  · have hlb : ((l.length : Int) != (m.length : Int)) = true := by
      have : ¬ (l.length : Int) = (m.length : Int) := by omega
      simpa using this
    rw [show decide (l = m) = false from decide_eq_false (fun h => hlm (by rw [h]))] at HR
    go_enter Try.func18, Try.ntmps18
    go_wp2_with fail
    exact HR.out _ 0 rfl
set_option maxRecDepth 100000 in
theorem pairs_Same (l m : List It) (A B : Option Addr) (c d : Nat) (w : World) (h1 : Row w A (flat itC l)) (h2 : Row w B (flat itC m)) (hl : l.length ≤ 140737488351232) {R : Ending → World → Prop}
    (hR : ∀ w' n, w' = w.drewN n → R (.returned (.bool (decide (l = m)))) w') :
    Calls Try.prog 19 #[.slice A l.length c, .slice B m.length d] w R := by
  have HR := Lib.hid hR
  clear hR
  go_enter Try.func19, Try.ntmps19
  go_wp2_with fail
  refine slices_Equal_Pair l m A B c d w h1 h2 hl ?_
  rintro w' n rfl
  generalize decide (l = m) = z at *
  go_wp2_with fail
  exact HR.out _ _ rfl
def smallP (l : List It) (j : Nat) : Prop := ∀ i, i < j → (l.getD i (emp, emp)).1.size ≤ 100 ∧ (l.getD i (emp, emp)).2.size ≤ 100
def GrRel (W : World) (l : List It) (i : Value) (w : World) : Prop := ∃ j n : Nat, i = .int .i64 (j : Int) ∧ j ≤ l.length ∧ smallP l j ∧ w = W.drewN n
set_option maxHeartbeats 2000000 in
set_option maxRecDepth 100000 in
theorem ref14_Great (l : List It) (A : Option Addr) (c : Nat) (w : World) (h : Row w A (flat itC l)) {R : Ending → World → Prop}
    (hR : ∀ b w' n, (b = false → l.length ≤ 20 ∧ smallP l l.length) → w' = w.drewN n → R (.returned (.bool b)) w') :
    Calls Try.prog 15 #[.slice A l.length c] w R := by
  have HR := Lib.hid hR
  clear hR
  have hl0 : (0 : Int) ≤ (l.length : Int) := Int.natCast_nonneg _
  by_cases hbig : 20 < l.length
  · have hb1 : (20 : Int) < (l.length : Int) := by omega
    have hb2 : decide ((20 : Int) < (l.length : Int)) = true := decide_eq_true hb1
    go_enter Try.func15, Try.ntmps15
    go_wp2_with fail
    exact HR.out true _ 0 (fun e => by cases e) rfl
  have hb1 : ¬ (20 : Int) < (l.length : Int) := by omega
  have hb2 : decide ((20 : Int) < (l.length : Int)) = false := decide_eq_false hb1
  go_enter Try.func15, Try.ntmps15
  go_wp2_with fail
  clear hb1 hb2
  go_loopw [3] (GrRel w l) (fun i _ => l.length - (RowKit.intOf i).toNat)
  case atStart => exact ⟨0, 0, rfl, Nat.zero_le _, fun i hi => absurd hi (by omega), rfl⟩
  case round =>
    obtain ⟨j, n, rfl, hj, hsm, rfl⟩ := hrel
    have hj0 : (0 : Int) ≤ (j : Int) := Int.natCast_nonneg _
    have HSM := Lib.hid hsm
    clear hsm
    by_cases hlt : j < l.length
    · have hj1 : (j : Int) < (l.length : Int) := by omega
      have hjd : decide ((j : Int) < (l.length : Int)) = true := decide_eq_true hj1
      obtain ⟨b, o, hA, hb, d0, d1⟩ := h.it j hlt
      obtain ⟨⟨k, m⟩, hkm⟩ : ∃ x, l.getD j (emp, emp) = x := ⟨_, rfl⟩
      rw [hkm] at d0 d1
      dsimp only at d0 d1
      subst hA
      by_cases h1 : 100 < k.size
      · have e1 : (100 : Int) < (k.size : Int) := by omega
        have e2 : decide ((100 : Int) < (k.size : Int)) = true := decide_eq_true e1
        go_wp2_with fail
        exact HR.out true _ _ (fun e => by cases e) rfl
      · have e1 : ¬ (100 : Int) < (k.size : Int) := by omega
        have e2 : decide ((100 : Int) < (k.size : Int)) = false := decide_eq_false e1
        by_cases h2 : 100 < m.size
        · have e3 : (100 : Int) < (m.size : Int) := by omega
          have e4 : decide ((100 : Int) < (m.size : Int)) = true := decide_eq_true e3
          go_wp2_with fail
          exact HR.out true _ _ (fun e => by cases e) rfl
        · have e3 : ¬ (100 : Int) < (m.size : Int) := by omega
          have e4 : decide ((100 : Int) < (m.size : Int)) = false := decide_eq_false e3
          have hsn : smallP l (j + 1) := fun i hi => by
            by_cases c : i = j
            · subst c; rw [hkm]; exact ⟨by show k.size ≤ 100; omega, by show m.size ≤ 100; omega⟩
            · exact HSM.out i (by omega)
          have HSN := Lib.hid hsn
          clear hsn hkm
          go_wp2_with fail
          go_roundw
          case rel => exact ⟨j + 1, _, by go_num, by omega, HSN.out, rfl⟩
          case measure => simp [RowKit.intOf]; omega
    · have hje : j = l.length := by omega
      have hj1 : ¬ (j : Int) < (l.length : Int) := by omega
      have hjd : decide ((j : Int) < (l.length : Int)) = false := decide_eq_false hj1
      rw [hje] at HSM
      clear hje
      go_wp2_with fail
      exact HR.out false _ _ (fun _ => ⟨by omega, HSM.out⟩) rfl
end
end Go.Proofs.Ytgjiedjfplbipaa
