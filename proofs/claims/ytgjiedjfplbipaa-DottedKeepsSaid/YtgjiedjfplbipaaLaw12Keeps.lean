/- DottedKeeps' walk. -/
import Derived.Test.YtgjiedjfplbipaaDotSame
import Derived.Test.YtgjiedjfplbipaaDotKeep
namespace Go.Proofs.Ytgjiedjfplbipaa
open Go.RowKit Go.Lib
section
theorem ceilR_len (l : List Ck) : (ceilR l).1.length ≤ 64 := by
  unfold ceilR listR
  split
  · split
    · simp
    · dsimp only; omega
  · simp
theorem keepE_len (l : List Ck) : (keepE l).1.length ≤ l.length := by
  unfold keepE
  split
  · exact kp_len l l.length
  · simp
set_option maxHeartbeats 8000000 in
set_option maxRecDepth 100000 in
theorem law12_keeps (l : List Ck) {m : Nat} (hm : l.length = m) (B : Option Addr) (d : Nat) (w : World) (h2 : Row w B (flat ckC l)) (h1 : Cks w l) (hok : ∀ x ∈ l, (∀ e ∈ x.1.1, wfE e) ∧ wfE x.2.2) :
    Calls Try.prog 11 #[.slice B m d] w fun e w' => e = .returned (.bool true) ∧ Below w.heap.size w w' := by
  subst hm
  have HOK := Lib.hid hok
  clear hok
  have hl0 : (0 : Int) ≤ (l.length : Int) := Int.natCast_nonneg _
  go_enter Try.func11, Try.ntmps11
  go_wp2_with fail
  refine law12_awake w ?_
  intro w1 hb1
  by_cases hlb : 20 < l.length
  · have e1 : (20 : Int) < (l.length : Int) := by omega
    have e2 : decide ((20 : Int) < (l.length : Int)) = true := decide_eq_true e1
    go_wp2_with fail
    first | exact ⟨rfl, hb1⟩ | (go_ret; exact ⟨rfl, hb1⟩)
  have e1 : ¬ (20 : Int) < (l.length : Int) := by omega
  have e2 : decide ((20 : Int) < (l.length : Int)) = false := decide_eq_false e1
  have hl20 : l.length ≤ 20 := by omega
  clear hlb
  go_wp2_with fail
  clear e1 e2
  go_loopw [3] (fun i wx => ∃ j : Nat, i = .int .i64 (j : Int) ∧ j ≤ l.length ∧ Hid (∀ t, t < j → (l.getD t ck0).1.1.length ≤ 100) ∧ Below w.heap.size w wx) (fun i _ => l.length - (RowKit.intOf i).toNat)
  case atStart => exact ⟨0, rfl, Nat.zero_le _, Lib.hid (fun t h => absurd h (by omega)), hb1⟩
  case round =>
    clear hb1
    obtain ⟨j, rfl, hj, HLN, hbx⟩ := hrel
    have hj0 : (0 : Int) ≤ (j : Int) := Int.natCast_nonneg _
    by_cases hlt : j < l.length
    · have hj1 : (j : Int) < (l.length : Int) := by omega
      have hjd : decide ((j : Int) < (l.length : Int)) = true := decide_eq_true hj1
      obtain ⟨b', o, hA, hb, d0, d1, d2, d3⟩ := (h2.below hbx (Nat.le_refl _)).ck j hlt
      have hr := (h1.at_ j hlt).below hbx (Nat.le_refl _)
      have hln : (l.getD j ck0).1.1.length ≤ 100 → ∀ t, t < j + 1 → (l.getD t ck0).1.1.length ≤ 100 := fun h t ht => by
        by_cases e : t = j
        · rw [e]; exact h
        · exact HLN.out t (by omega)
      obtain ⟨⟨⟨v, A1, c1⟩, b, s, n⟩, hkm⟩ : ∃ x, l.getD j ck0 = x := ⟨_, rfl⟩
      rw [hkm] at d0 d1 d2 d3 hr hln
      unfold vcV at d0
      dsimp only at d0 d1 d2 d3 hr hln
      have HL := Lib.hid hln
      subst hA
      clear hkm hln
      go_wp2_with fail
      refine ref12_Great v A1 c1 b s n wr hr ?_
      intro g w2 hb2 hbd
      replace hbx := hbx.trans (hb2.mono hbx.size)
      cases g
      rotate_left
      · go_wp2_with fail
        first | exact ⟨rfl, hbx⟩ | (go_ret; exact ⟨rfl, hbx⟩)
      have HL2 := Lib.hid (HL.out (hbd rfl).1)
      clear hbd d0 d1 d2 d3 HL
      go_wp2_with fail
      go_roundw
      case rel => exact ⟨j + 1, by go_num, by omega, HL2, hbx⟩
      case measure => simp [RowKit.intOf]; omega
    · have hj1 : ¬ (j : Int) < (l.length : Int) := by omega
      have hjd : decide ((j : Int) < (l.length : Int)) = false := decide_eq_false hj1
      have hln : ∀ x ∈ l, x.1.1.length ≤ 100 := fun x hx => by
        obtain ⟨t, ht, rfl⟩ := List.getElem_of_mem hx
        have := HLN.out t (by omega)
        rwa [getD_at l t _ ht] at this
      have HL := Lib.hid hln
      clear hlt hj hln HLN
      go_wp2_with fail
      clear hjd hj1 hj0
      refine dotted_Ceiling l B d wr (h2.below hbx (Nat.le_refl _)) (h1.below hbx (Nat.le_refl _)) HOK.out (by omega) ?_
      intro A1 c1 w2 hr1 hb2
      replace hbx := hbx.trans (hb2.mono hbx.size)
      have hre := fun R => ref12_Ceiling l B d w2 (h2.below hbx (Nat.le_refl _)) (h1.below hbx (Nat.le_refl _)) HOK.out hl20 HL.out (R := R)
      have hel := ceilR_len l
      generalize ceilR l = r at *
      obtain ⟨r1, r2⟩ := r
      dsimp only at hr1 hre hel ⊢
      have HEL := Lib.hid hel
      clear hel hb2
      go_wp2_with fail
      refine hre _ ?_
      intro A2 c2 w3 hr2 hb3
      replace hbx := hbx.trans (hb3.mono hbx.size)
      replace hr1 := hr1.below hb3 (Nat.le_refl _)
      clear hb3 hre
      go_wp2_with fail
      refine dotted_Keep l B d w3 (h2.below hbx (Nat.le_refl _)) (h1.below hbx (Nat.le_refl _)) HOK.out (by omega) ?_
      intro A3 c3 w4 hr3 hb4
      replace hbx := hbx.trans (hb4.mono hbx.size)
      replace hr1 := hr1.below hb4 (Nat.le_refl _)
      replace hr2 := hr2.below hb4 (Nat.le_refl _)
      clear hb4
      have hrk := fun R => ref12_Keep l B d w4 (h2.below hbx (Nat.le_refl _)) (h1.below hbx (Nat.le_refl _)) HOK.out (by omega) (R := R)
      have hkl := keepE_len l
      generalize keepE l = q at *
      obtain ⟨q1, q2⟩ := q
      dsimp only at hr3 hrk hkl ⊢
      have HKL := Lib.hid hkl
      clear hkl
      go_wp2_with fail
      refine hrk _ ?_
      intro A4 c4 w5 hr4 hb5
      replace hbx := hbx.trans (hb5.mono hbx.size)
      replace hr1 := hr1.below hb5 (Nat.le_refl _)
      replace hr2 := hr2.below hb5 (Nat.le_refl _)
      replace hr3 := hr3.below hb5 (Nat.le_refl _)
      clear hb5 hrk
      go_wp2_with fail
      refine ref10_Same r1 r1 A1 A2 c1 c2 w5 hr1 hr2 (by have := HEL.out; omega) ?_
      rintro w6 n rfl
      rw [decide_eq_true rfl]
      replace hr3 : Row (w5.drewN n) _ _ := hr3
      replace hr4 : Row (w5.drewN n) _ _ := hr4
      replace hbx := below_drewN hbx n
      generalize w5.drewN n = w6 at *
      go_wp2_with fail
      refine (refN_Ints A3 A4 c3 c4 q1 q1 w6 hr3 hr4 (by have := HKL.out; omega) (by have := HKL.out; omega)).mono ?_
      rintro e w7 ⟨rfl, n2, rfl⟩
      rw [decide_eq_true rfl]
      replace hbx := below_drewN hbx n2
      generalize w6.drewN n2 = w7 at *
      go_wp2_with fail
      first | exact ⟨rfl, hbx⟩ | (go_ret; exact ⟨rfl, hbx⟩)
end
end Go.Proofs.Ytgjiedjfplbipaa
