/- VectorTells' walk. -/
import Derived.Deep.DeepCutAuto
import Derived.Test.YtgjiedjfplbipaaVecAwake
namespace Go.Proofs.Ytgjiedjfplbipaa
open Go.RowKit Go.Lib
section
theorem Drw.below {w w' : World} (h : Drw w w') : Below w.heap.size w w' := by
  obtain ⟨n, rfl⟩ := h
  exact below_drewN (Below.refl _ _) n
set_option maxHeartbeats 4000000 in
set_option maxRecDepth 100000 in
theorem law10_tells (a b : List En) {n1 n2 : Nat} (hn1 : a.length = n1) (hn2 : b.length = n2) (A1 A2 : Option Addr) (c1 c2 : Nat) (name : ByteArray) (w : World) (h1 : Row w A1 (flat enC a)) (h2 : Row w A2 (flat enC b)) :
    Calls Try.prog 6 #[.slice A1 n1 c1, .slice A2 n2 c2, .string name] w fun e w' => e = .returned (.bool true) ∧ Below w.heap.size w w' := by
  subst hn1 hn2
  go_enter Try.func6, Try.ntmps6
  go_wp2_with fail
  refine law10_awake w ?_
  intro w1 hb1
  replace h1 := h1.below hb1 (Nat.le_refl _)
  replace h2 := h2.below hb1 (Nat.le_refl _)
  go_wp2_with fail
  refine ref10_Great a A1 c1 w1 h1 ?_
  intro g hbd
  cases g
  rotate_left
  · go_wp2_with fail
    first | exact ⟨rfl, hb1⟩ | (go_ret; exact ⟨rfl, hb1⟩)
  obtain ⟨ha1, _⟩ := hbd rfl
  clear hbd
  go_wp2_with fail
  refine ref10_Great b A2 c2 w1 h2 ?_
  intro g hbd
  cases g
  rotate_left
  · go_wp2_with fail
    first | exact ⟨rfl, hb1⟩ | (go_ret; exact ⟨rfl, hb1⟩)
  obtain ⟨hb1l, _⟩ := hbd rfl
  clear hbd
  by_cases hnm : 100 < name.size
  · have e1 : (100 : Int) < (name.size : Int) := by omega
    have e2 : decide ((100 : Int) < (name.size : Int)) = true := decide_eq_true e1
    go_wp2_with fail
    first | exact ⟨rfl, hb1⟩ | (go_ret; exact ⟨rfl, hb1⟩)
  have e1 : ¬ (100 : Int) < (name.size : Int) := by omega
  have e2 : decide ((100 : Int) < (name.size : Int)) = false := decide_eq_false e1
  obtain ⟨ca, hca⟩ : ∃ z, checkE a = z := ⟨_, rfl⟩
  obtain ⟨cb, hcb⟩ : ∃ z, checkE b = z := ⟨_, rfl⟩
  obtain ⟨r, hr⟩ : ∃ z, rt2 a b = z := ⟨_, rfl⟩
  obtain ⟨u, hu⟩ : ∃ z, abR a b = z := ⟨_, rfl⟩
  obtain ⟨v, hv⟩ : ∃ z, abR b a = z := ⟨_, rfl⟩
  have hrr : r = (decide (ca = 0) && decide (cb = 0)) := by rw [← hr, ← hca, ← hcb]; rfl
  have hord : orderR a b = if r = true then (if (u && v) = true then (0, true) else if u = true then (1, true) else if v = true then (-1, true) else (2, true)) else (0, false) := by unfold orderR; rw [hr, hu, hv]
  have hdes : descR a b = (r && u) := by unfold descR; rw [hr, hu]
  have HCA := Lib.hid hca
  have HCB := Lib.hid hcb
  have HRR := Lib.hid hrr
  have HU := Lib.hid hu
  have HV := Lib.hid hv
  have HORD := Lib.hid hord
  have HDES := Lib.hid hdes
  have HA := Lib.hid ha1
  have HB := Lib.hid hb1l
  clear hca hcb hr hrr hu hv hord hdes ha1 hb1l hnm
  go_wp2_with fail
  clear e1 e2
  refine vector_Check a A1 c1 w1 h1 ?_
  rw [show checkL 64 (enF a) a.length = ca from HCA.out]
  intro w2 hb2
  replace h1 := h1.below hb2 (Nat.le_refl _)
  replace h2 := h2.below hb2 (Nat.le_refl _)
  replace hb1 := hb1.trans (hb2.mono hb1.size)
  clear hb2
  go_wp2_with fail
  refine ref10_Check a A1 c1 w2 h1 ?_
  rw [show checkL 64 (enF a) a.length = ca from HCA.out]
  intro w3 hb3
  replace h1 := h1.below hb3 (Nat.le_refl _)
  replace h2 := h2.below hb3 (Nat.le_refl _)
  replace hb1 := hb1.trans (hb3.mono hb1.size)
  clear hb3
  go_wp2_with fail
  refine vector_Count a A1 c1 name w3 h1 (by have := HA.out; omega) ?_
  intro w4 hx4
  have hb4 := hx4.below (Nat.le_refl _) (fun _ _ => id)
  replace h1 := h1.below hb4 (Nat.le_refl _)
  replace h2 := h2.below hb4 (Nat.le_refl _)
  replace hb1 := hb1.trans (hb4.mono hb1.size)
  clear hx4 hb4
  have hct := fun W h => ref10_Count a A1 c1 name W h (by have := HA.out; omega)
  generalize cntR name a = q at *
  go_wp2_with fail
  refine (hct w4 h1).mono ?_
  rintro e w5 ⟨rfl, rfl⟩
  clear hct
  go_wp2_with fail
  refine vector_Same a b A1 A2 c1 c2 w4 h1 h2 (by have := HA.out; omega) ?_
  rintro w5 n rfl
  replace h1 : Row (w4.drewN n) _ _ := h1
  replace h2 : Row (w4.drewN n) _ _ := h2
  replace hb1 := below_drewN hb1 n
  generalize w4.drewN n = w5 at *
  have hsame := fun w h1 h2 R => ref10_Same a b A1 A2 c1 c2 w h1 h2 (by have := HA.out; omega) (R := R)
  generalize decide (a = b) = z at *
  go_wp2_with fail
  refine hsame w5 h1 h2 _ ?_
  rintro w6 n rfl
  clear hsame
  replace h1 : Row (w5.drewN n) _ _ := h1
  replace h2 : Row (w5.drewN n) _ _ := h2
  replace hb1 := below_drewN hb1 n
  generalize w5.drewN n = w6 at *
  go_upto_region 7 with fail
  go_cut [7] (fun s7 wx => s7 = .bool r ∧ Below w6.heap.size w6 wx)
  case first =>
    go_wp2_with fail
    refine ref10_Check a A1 c1 w6 h1 ?_
    rw [show checkL 64 (enF a) a.length = ca from HCA.out]
    intro w7 hb7
    by_cases hza : ca = 0
    rotate_left
    · have hzb : (ca == 0) = false := by simpa using hza
      have hr := HRR.out
      rw [decide_eq_false hza, Bool.false_and] at hr
      subst hr
      go_wp2_with fail
      go_meet
      exact ⟨rfl, hb7⟩
    have hr := HRR.out
    rw [decide_eq_true hza, Bool.true_and] at hr
    subst hza
    go_wp2_with fail
    refine ref10_Check b A2 c2 w7 (h2.below hb7 (Nat.le_refl _)) ?_
    rw [show checkL 64 (enF b) b.length = cb from HCB.out]
    intro w8 hb8
    have hbb := hb7.trans (hb8.mono hb7.size)
    by_cases hzb : cb = 0
    · rw [decide_eq_true hzb] at hr
      subst hr hzb
      go_wp2_with fail
      go_meet
      exact ⟨rfl, hbb⟩
    · rw [decide_eq_false hzb] at hr
      have hzb2 : (cb == 0) = false := by simpa using hzb
      subst hr
      go_wp2_with fail
      go_meet
      exact ⟨rfl, hbb⟩
  case rest =>
  obtain ⟨rfl, hbc⟩ := hcut
  replace h1 := h1.below hbc (Nat.le_refl _)
  replace h2 := h2.below hbc (Nat.le_refl _)
  replace hb1 := hb1.trans (hbc.mono hb1.size)
  clear hbc HRR HCA HCB
  go_wp2_with fail
  refine ref10_Above a b A1 A2 c1 c2 wc h1 h2 (by have := HA.out; omega) (by have := HB.out; omega) ?_
  intro w7 hd7
  rw [HU.out]
  replace h1 := h1.drw hd7
  replace h2 := h2.drw hd7
  replace hb1 := hb1.trans (hd7.below.mono hb1.size)
  clear hd7
  go_wp2_with fail
  refine ref10_Above b a A2 A1 c2 c1 w7 h2 h1 (by have := HB.out; omega) (by have := HA.out; omega) ?_
  intro w8 hd8
  rw [HV.out]
  replace h1 := h1.drw hd8
  replace h2 := h2.drw hd8
  replace hb1 := hb1.trans (hd8.below.mono hb1.size)
  clear hd8
  have hvo := fun R => vector_Order a b A1 A2 c1 c2 w8 h1 h2 (by have := HA.out; omega) (by have := HB.out; omega) (R := R)
  have hvd := fun W h1 h2 R => vector_Descends a b A1 A2 c1 c2 W h1 h2 (by have := HA.out; omega) (by have := HB.out; omega) (R := R)
  rw [HORD.out] at hvo
  rw [HDES.out] at hvd
  clear HORD HDES HU HV
  cases r <;> cases u <;> cases v
  all_goals
    go_wp2_with fail
    refine hvo _ ?_
    intro w9 hb9
    have hb10 := hb1.trans (hb9.mono hb1.size)
    have h1' := h1.below hb9 (Nat.le_refl _)
    have h2' := h2.below hb9 (Nat.le_refl _)
    go_wp2_with fail
    refine hvd w9 h1' h2' _ ?_
    intro w11 hb11
    have hb12 := hb10.trans (hb11.mono hb10.size)
    go_wp2_with fail
    first | exact ⟨rfl, hb12⟩ | (go_ret; exact ⟨rfl, hb12⟩)
end
end Go.Proofs.Ytgjiedjfplbipaa
