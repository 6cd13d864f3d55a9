/- VectorJoins' walk. -/
import Derived.Test.YtgjiedjfplbipaaVecRJoin
import Derived.Test.YtgjiedjfplbipaaLaw10Tells
namespace Go.Proofs.Ytgjiedjfplbipaa
open Go.RowKit Go.Lib
section
theorem joinR_len (l : List Vc) : (joinR l).1.length ≤ 64 := by
  unfold joinR listR
  split
  · split
    · simp
    · dsimp only; omega
  · simp
set_option maxHeartbeats 4000000 in
set_option maxRecDepth 100000 in
theorem law10_joins (l : List Vc) {n1 : Nat} (hn1 : l.length = n1) (B : Option Addr) (d : Nat) (name : ByteArray) (w : World) (h2 : Row w B (flat vcC l)) (h1 : Vcs w l) (hok : ∀ x ∈ l, ∀ e ∈ x.1, wfE e) :
    Calls Try.prog 8 #[.slice B n1 d, .string name] w fun e w' => e = .returned (.bool true) ∧ Below w.heap.size w w' := by
  subst hn1
  have HOK := Lib.hid hok
  clear hok
  have hl0 : (0 : Int) ≤ (l.length : Int) := Int.natCast_nonneg _
  go_enter Try.func8, Try.ntmps8
  go_wp2_with fail
  refine law10_awake w ?_
  intro w1 hb1
  by_cases hlb : 6 < l.length
  · have e1 : (6 : Int) < (l.length : Int) := by omega
    have e2 : decide ((6 : Int) < (l.length : Int)) = true := decide_eq_true e1
    go_wp2_with fail
    first | exact ⟨rfl, hb1⟩ | (go_ret; exact ⟨rfl, hb1⟩)
  have e1 : ¬ (6 : Int) < (l.length : Int) := by omega
  have e2 : decide ((6 : Int) < (l.length : Int)) = false := decide_eq_false e1
  by_cases hnm : 100 < name.size
  · have e3 : (100 : Int) < (name.size : Int) := by omega
    have e4 : decide ((100 : Int) < (name.size : Int)) = true := decide_eq_true e3
    go_wp2_with fail
    first | exact ⟨rfl, hb1⟩ | (go_ret; exact ⟨rfl, hb1⟩)
  have e3 : ¬ (100 : Int) < (name.size : Int) := by omega
  have e4 : decide ((100 : Int) < (name.size : Int)) = false := decide_eq_false e3
  have HLB := Lib.hid hlb
  have hl6 : l.length ≤ 6 := by omega
  clear hlb hnm
  go_wp2_with fail
  clear e1 e2 e3 e4
  go_loopw [5] (fun i wx => ∃ j : Nat, i = .int .i64 (j : Int) ∧ j ≤ l.length ∧ Below w.heap.size w wx) (fun i _ => l.length - (RowKit.intOf i).toNat)
  case atStart => exact ⟨0, rfl, Nat.zero_le _, hb1⟩
  case round =>
    obtain ⟨j, rfl, hj, hbx⟩ := hrel
    have hj0 : (0 : Int) ≤ (j : Int) := Int.natCast_nonneg _
    by_cases hlt : j < l.length
    · have hj1 : (j : Int) < (l.length : Int) := by omega
      have hjd : decide ((j : Int) < (l.length : Int)) = true := decide_eq_true hj1
      obtain ⟨bb, o, hA, hbb, hc⟩ := (h2.below hbx (Nat.le_refl _)).at_ vcC_len (by decide) j hlt
      have d0 := hc 0 _ rfl
      have hvr := (h1 _ (List.getElem_mem hlt)).below hbx (Nat.le_refl _)
      have hvw := HOK.out _ (List.getElem_mem hlt)
      obtain ⟨⟨v, A1, c1⟩, hkm⟩ : ∃ x, l[j] = x := ⟨_, rfl⟩
      rw [hkm] at d0 hvr hvw
      unfold vcV at d0
      dsimp only at d0 hvr hvw
      rw [Nat.mul_one, Nat.add_zero] at d0
      have HVW := Lib.hid hvw
      subst hA
      clear hc hkm hvw
      go_wp2_with fail
      refine ref10_Great v A1 c1 wr hvr ?_
      intro g hbd
      cases g
      rotate_left
      · go_wp2_with fail
        first | exact ⟨rfl, hbx⟩ | (go_ret; exact ⟨rfl, hbx⟩)
      obtain ⟨hv1, _⟩ := hbd rfl
      have HV1 := Lib.hid hv1
      clear hbd hv1
      go_wp2_with fail
      refine vector_Event v A1 c1 name wr hvr HVW.out (by have := HV1.out; omega) ?_
      intro A3 c3 w3 hr3 hb3
      have d0' := cell_below hb3 d0
      replace hvr := hvr.below hb3 (Nat.le_refl _)
      have hbw := hbx.trans (hb3.mono hbx.size)
      have hre := fun R => ref10_Event v A1 c1 name w3 hvr HVW.out (R := R)
      have hel := event_len v name
      generalize eventR v name = r at *
      obtain ⟨r1, r2⟩ := r
      dsimp only at hr3 hre hel ⊢
      have HEL := Lib.hid hel
      clear d0 hel
      go_wp2_with fail
      refine hre _ ?_ (by have := HV1.out; omega)
      intro A4 c4 w4 hr4 hb4
      clear hre
      replace hr3 := hr3.below hb4 (Nat.le_refl _)
      replace hbw := hbw.trans (hb4.mono hbw.size)
      clear d0'
      go_wp2_with fail
      refine vector_Same r1 r1 A3 A4 c3 c4 w4 hr3 hr4 (by have := HEL.out; omega) ?_
      rintro w5 n rfl
      rw [decide_eq_true rfl]
      replace hr3 : Row (w4.drewN n) _ _ := hr3
      replace hr4 : Row (w4.drewN n) _ _ := hr4
      replace hbw := below_drewN hbw n
      generalize w4.drewN n = w5 at *
      go_wp2_with fail
      refine ref10_Same r1 r1 A3 A4 c3 c4 w5 hr3 hr4 (by have := HEL.out; omega) ?_
      rintro w6 n rfl
      rw [decide_eq_true rfl]
      replace hbw := below_drewN hbw n
      generalize w5.drewN n = w6 at *
      go_wp2_with fail
      go_roundw
      case rel => exact ⟨j + 1, by go_num, by omega, hbw⟩
      case measure => simp [RowKit.intOf]; omega
    · have hj1 : ¬ (j : Int) < (l.length : Int) := by omega
      have hjd : decide ((j : Int) < (l.length : Int)) = false := decide_eq_false hj1
      go_wp2_with fail
      refine vector_Join l B d wr (h2.below hbx (Nat.le_refl _)) (h1.below hbx (Nat.le_refl _)) HOK.out (by have := HLB.out; omega) ?_
      intro A3 c3 w3 hr3 hb3
      have hbw := hbx.trans (hb3.mono hbx.size)
      have hre := fun R => ref10_Join l B d w3 (h2.below hbw (Nat.le_refl _)) (h1.below hbw (Nat.le_refl _)) HOK.out (by have := HLB.out; omega) (R := R)
      have hel := joinR_len l
      generalize joinR l = r at *
      obtain ⟨r1, r2⟩ := r
      dsimp only at hr3 hre hel ⊢
      have HEL := Lib.hid hel
      clear hel
      go_wp2_with fail
      refine hre _ ?_
      intro A4 c4 w4 hr4 hb4
      clear hre
      replace hr3 := hr3.below hb4 (Nat.le_refl _)
      replace hbw := hbw.trans (hb4.mono hbw.size)
      go_wp2_with fail
      refine ref10_Same r1 r1 A3 A4 c3 c4 w4 hr3 hr4 (by have := HEL.out; omega) ?_
      rintro w6 n rfl
      rw [decide_eq_true rfl]
      replace hbw := below_drewN hbw n
      generalize w4.drewN n = w6 at *
      go_wp2_with fail
      first | exact ⟨rfl, hbw⟩ | (go_ret; exact ⟨rfl, hbw⟩)
end
end Go.Proofs.Ytgjiedjfplbipaa
