/- VectorLeast's walk. -/
import Derived.Deep.DeepCutAuto
import Derived.Test.YtgjiedjfplbipaaVecAwake
import Derived.Test.YtgjiedjfplbipaaVecPlain
namespace Go.Proofs.Ytgjiedjfplbipaa
open Go.RowKit Go.Lib
section
set_option maxHeartbeats 4000000 in
set_option maxRecDepth 100000 in
theorem law10_least (a b c : List En) {n1 n2 n3 : Nat} (hn1 : a.length = n1) (hn2 : b.length = n2) (hn3 : c.length = n3) (A1 A2 A3 : Option Addr) (c1 c2 c3 : Nat) (w : World) (h1 : Row w A1 (flat enC a)) (h2 : Row w A2 (flat enC b)) (h3 : Row w A3 (flat enC c))
    (f1 : ∀ x ∈ a, wfE x) (f2 : ∀ x ∈ b, wfE x) (f3 : ∀ x ∈ c, wfE x) :
    Calls Try.prog 7 #[.slice A1 n1 c1, .slice A2 n2 c2, .slice A3 n3 c3] w fun e w' => e = .returned (.bool true) ∧ Below w.heap.size w w' := by
  subst hn1 hn2 hn3
  have F1 := Lib.hid f1
  have F2 := Lib.hid f2
  have F3 := Lib.hid f3
  clear f1 f2 f3
  go_enter Try.func7, Try.ntmps7
  go_wp2_with fail
  refine law10_awake w ?_
  intro w1 hb1
  replace h1 := h1.below hb1 (Nat.le_refl _)
  replace h2 := h2.below hb1 (Nat.le_refl _)
  replace h3 := h3.below hb1 (Nat.le_refl _)
  go_wp2_with fail
  refine ref10_Great a A1 c1 w1 h1 ?_
  intro g hbd
  cases g
  rotate_left
  · go_wp2_with fail
    first | exact ⟨rfl, hb1⟩ | (go_ret; exact ⟨rfl, hb1⟩)
  have HA := Lib.hid (hbd rfl).1
  clear hbd
  go_wp2_with fail
  refine ref10_Great b A2 c2 w1 h2 ?_
  intro g hbd
  cases g
  rotate_left
  · go_wp2_with fail
    first | exact ⟨rfl, hb1⟩ | (go_ret; exact ⟨rfl, hb1⟩)
  have HB := Lib.hid (hbd rfl).1
  clear hbd
  go_wp2_with fail
  refine ref10_Great c A3 c3 w1 h3 ?_
  intro g hbd
  cases g
  rotate_left
  · go_wp2_with fail
    first | exact ⟨rfl, hb1⟩ | (go_ret; exact ⟨rfl, hb1⟩)
  have HC := Lib.hid (hbd rfl).1
  clear hbd
  go_wp2_with fail
  have hb0 := (Below.refl w1.heap.size w1).alloc (Nat.le_refl _) (.cells #[.slice A1 a.length c1, .slice A2 b.length c2] 61)
  have hr0 := row_two w1 a b A1 A2 c1 c2
  replace h1 := h1.below hb0 (Nat.le_refl _)
  replace h2 := h2.below hb0 (Nat.le_refl _)
  replace h3 := h3.below hb0 (Nat.le_refl _)
  replace hb1 := hb1.trans (hb0.mono hb1.size)
  refine vector_Join [(a, A1, c1), (b, A2, c2)] _ 2 _ hr0 (vcs_two h1 h2) (wf_two F1.out F2.out) (by simp) ?_
  rw [joinR_two]
  intro A4 c4 w2 h4 hb2
  clear hb0 hr0
  replace h1 := h1.below hb2 (Nat.le_refl _)
  replace h2 := h2.below hb2 (Nat.le_refl _)
  replace h3 := h3.below hb2 (Nat.le_refl _)
  replace hb1 := hb1.trans (hb2.mono hb1.size)
  clear hb2
  have HERR := Lib.hid (join_err (a := a) (b := b))
  have HLEN := Lib.hid (join_len a b)
  have HGOOD := Lib.hid (join_good F1.out F2.out)
  have hcm := join_comm F1.out F2.out
  have hvj := fun w2 d h2' h1' R => vector_Join [(b, A2, c2), (a, A1, c1)] d 2 w2 h2' h1' (wf_two F2.out F1.out) (by simp) (R := R)
  rw [joinR_two, hcm] at hvj
  clear hcm
  generalize joinR2 a b = J at *
  obtain ⟨L, f⟩ := J
  dsimp only at h4 hvj HERR HLEN HGOOD ⊢
  go_wp2_with fail
  have hb0 := (Below.refl w2.heap.size w2).alloc (Nat.le_refl _) (.cells #[.slice A2 b.length c2, .slice A1 a.length c1] 61)
  have hr0 := row_two w2 b a A2 A1 c2 c1
  replace h1 := h1.below hb0 (Nat.le_refl _)
  replace h2 := h2.below hb0 (Nat.le_refl _)
  replace h3 := h3.below hb0 (Nat.le_refl _)
  replace h4 := h4.below hb0 (Nat.le_refl _)
  replace hb1 := hb1.trans (hb0.mono hb1.size)
  refine hvj _ _ hr0 (vcs_two h2 h1) _ ?_
  intro A5 c5 w3 h5 hb3
  clear hb0 hr0 hvj
  replace h1 := h1.below hb3 (Nat.le_refl _)
  replace h2 := h2.below hb3 (Nat.le_refl _)
  replace h3 := h3.below hb3 (Nat.le_refl _)
  replace h4 := h4.below hb3 (Nat.le_refl _)
  replace hb1 := hb1.trans (hb3.mono hb1.size)
  clear hb3
  go_wp2_with fail
  refine vector_Same L L A4 A5 c4 c5 w3 h4 h5 (by have := HLEN.out; omega) ?_
  rintro w4 n rfl
  rw [decide_eq_true rfl]
  replace h1 : Row (w3.drewN n) _ _ := h1
  replace h2 : Row (w3.drewN n) _ _ := h2
  replace h3 : Row (w3.drewN n) _ _ := h3
  replace h4 : Row (w3.drewN n) _ _ := h4
  replace hb1 := below_drewN hb1 n
  clear h5
  generalize w3.drewN n = w4 at *
  by_cases hf : f = 0
  rotate_left
  · have hfb : (f != 0) = true := by simpa using hf
    have hL := HERR.out hf
    subst hL
    clear hf
    go_wp2_with fail
    first | exact ⟨rfl, hb1⟩ | (go_ret; exact ⟨rfl, hb1⟩)
  subst hf
  obtain ⟨g1, g2, g3, g4⟩ := HGOOD.out rfl
  have g5 := g4 c F3.out
  have HG1 := Lib.hid g1
  have HG2 := Lib.hid g2
  have HG3 := Lib.hid g3
  have HG5 := Lib.hid g5
  clear g1 g2 g3 g4 g5 HGOOD HERR F1 F2 F3
  obtain ⟨da, hda⟩ : ∃ z, descR c a = z := ⟨_, rfl⟩
  obtain ⟨db, hdb⟩ : ∃ z, descR c b = z := ⟨_, rfl⟩
  obtain ⟨dl, hdl⟩ : ∃ z, descR c L = z := ⟨_, rfl⟩
  obtain ⟨cc, hcc⟩ : ∃ z, checkE c = z := ⟨_, rfl⟩
  have hg5 := HG5.out
  rw [hda, hdb, hdl, hcc] at hg5
  have HDA := Lib.hid hda
  have HDB := Lib.hid hdb
  have HDL := Lib.hid hdl
  have HCC := Lib.hid hcc
  replace HG5 := Lib.hid hg5
  clear hda hdb hdl hcc hg5
  go_upto_region 11 with fail
  go_cut [11] (fun s wx => s = .bool (da && db) ∧ Below w4.heap.size w4 wx)
  case first =>
    go_wp2_with fail
    refine vector_Descends c a A3 A1 c3 c1 w4 h3 h1 (by have := HC.out; omega) (by have := HA.out; omega) ?_
    rw [HDA.out]
    intro w5 hb5
    cases da
    · go_wp2_with fail
      go_meet
      exact ⟨rfl, hb5⟩
    · go_wp2_with fail
      refine vector_Descends c b A3 A2 c3 c2 w5 (h3.below hb5 (Nat.le_refl _)) (h2.below hb5 (Nat.le_refl _)) (by have := HC.out; omega) (by have := HB.out; omega) ?_
      rw [HDB.out]
      intro w6 hb6
      go_wp2_with fail
      go_meet
      exact ⟨by first | rfl | simp, hb5.trans (hb6.mono hb5.size)⟩
  case rest =>
  obtain ⟨rfl, hbc⟩ := hcut
  replace h1 := h1.below hbc (Nat.le_refl _)
  replace h2 := h2.below hbc (Nat.le_refl _)
  replace h3 := h3.below hbc (Nat.le_refl _)
  replace h4 := h4.below hbc (Nat.le_refl _)
  replace hb1 := hb1.trans (hbc.mono hb1.size)
  clear hbc HDA HDB
  generalize (da && db) = up at *
  go_wp2_with fail
  refine vector_Check L A4 c4 wc h4 ?_
  rw [show checkL 64 (enF L) L.length = 0 from HG1.out]
  intro w5 hb5
  replace h1 := h1.below hb5 (Nat.le_refl _)
  replace h2 := h2.below hb5 (Nat.le_refl _)
  replace h3 := h3.below hb5 (Nat.le_refl _)
  replace h4 := h4.below hb5 (Nat.le_refl _)
  replace hb1 := hb1.trans (hb5.mono hb1.size)
  clear hb5
  go_wp2_with fail
  refine vector_Descends L a A4 A1 c4 c1 w5 h4 h1 (by have := HLEN.out; omega) (by have := HA.out; omega) ?_
  rw [HG2.out]
  intro w6 hb6
  replace h2 := h2.below hb6 (Nat.le_refl _)
  replace h3 := h3.below hb6 (Nat.le_refl _)
  replace h4 := h4.below hb6 (Nat.le_refl _)
  replace hb1 := hb1.trans (hb6.mono hb1.size)
  clear hb6 h1
  go_wp2_with fail
  refine vector_Descends L b A4 A2 c4 c2 w6 h4 h2 (by have := HLEN.out; omega) (by have := HB.out; omega) ?_
  rw [HG3.out]
  intro w7 hb7
  replace h3 := h3.below hb7 (Nat.le_refl _)
  replace h4 := h4.below hb7 (Nat.le_refl _)
  replace hb1 := hb1.trans (hb7.mono hb1.size)
  clear hb7 h2
  go_wp2_with fail
  refine vector_Check c A3 c3 w7 h3 ?_
  rw [show checkL 64 (enF c) c.length = cc from HCC.out]
  intro w8 hb8
  replace h3 := h3.below hb8 (Nat.le_refl _)
  replace h4 := h4.below hb8 (Nat.le_refl _)
  replace hb1 := hb1.trans (hb8.mono hb1.size)
  clear hb8
  by_cases hz : cc = 0
  rotate_left
  · have hzb : (cc != 0) = true := by simpa using hz
    clear hz
    go_wp2_with fail
    first | exact ⟨rfl, hb1⟩ | (go_ret; exact ⟨rfl, hb1⟩)
  have hup := HG5.out hz
  have hzb : (cc != 0) = false := by simpa using hz
  subst hup
  clear hz
  go_wp2_with fail
  refine vector_Descends c L A3 A4 c3 c4 w8 h3 h4 (by have := HC.out; omega) (by have := HLEN.out; omega) ?_
  rw [HDL.out]
  intro w9 hb9
  have hb10 := hb1.trans (hb9.mono hb1.size)
  go_wp2_with fail
  first | exact ⟨rfl, hb10⟩ | (go_ret; exact ⟨by first | rfl | simp, hb10⟩) | exact ⟨by simp, hb10⟩
end
end Go.Proofs.Ytgjiedjfplbipaa
