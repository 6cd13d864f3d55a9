/- TreeDiffs' walk. -/
import Derived.Test.YtlkjonlipnmbnaaTreeLook2
namespace Go.Proofs.Ytlkjonlipnmbnaa
open Go.RowKit Go.Lib
section
theorem diff_len (a b : List It) : (diffR a b).1.length ≤ a.length + b.length := by
  unfold diffR
  split
  · simp
  · split
    · simp
    · split
      · next h1 h2 h3 =>
        have hs := (cmp_sub 32 (p := emp) rfl (checkT_ok (Decidable.not_not.1 h1)) (checkT_ok (Decidable.not_not.1 h2)) (beg_emp a) (beg_emp b)).1.length_le
        exact Nat.le_trans hs (unl_len _ a b (Nat.le_refl _))
      · simp
theorem unR_len (a b : List It) : (unR a b).length ≤ a.length + b.length := by
  unfold unR
  split
  · exact unl_len _ a b (Nat.le_refl _)
  · simp
set_option maxHeartbeats 8000000 in
set_option maxRecDepth 100000 in
theorem law21_diffs (a b : List It) {na nb : Nat} (hna : a.length = na) (hnb : b.length = nb) (A B : Option Addr) (ca cb : Nat) (w : World) (ha : Row w A (flat itC a)) (hb : Row w B (flat itC b)) (hla : na ≤ ca) (hlb : nb ≤ cb) :
    Calls Try.prog 6 #[.slice A na ca, .slice B nb cb] w fun e w' => e = .returned (.bool true) ∧ Below w.heap.size w w' := by
  subst hna hnb
  go_enter Try.func6, Try.ntmps6
  go_wp2_with fail
  refine law21_awake w ?_
  intro w1 hx
  go_wp2_with fail
  refine ref21_Great a A ca w1 (ha.below hx (Nat.le_refl _)) ?_
  intro z hz
  cases z
  rotate_left
  · go_wp2_with fail
    first | exact ⟨rfl, hx⟩ | (go_ret; exact ⟨rfl, hx⟩)
  have hsa := hz rfl
  clear hz
  go_wp2_with fail
  refine ref21_Great b B cb w1 (hb.below hx (Nat.le_refl _)) ?_
  intro z hz
  cases z
  rotate_left
  · go_wp2_with fail
    first | exact ⟨rfl, hx⟩ | (go_ret; exact ⟨rfl, hx⟩)
  have hsb := hz rfl
  clear hz
  have HLA := Lib.hid hla
  have HLB := Lib.hid hlb
  clear hla hlb
  have hdf := fun W h1 h2 R => tree_Diff a b A B ca cb W h1 h2 HLA.out HLB.out hsa hsb (R := R)
  have hun := fun W h1 h2 R => tree_Unlike a b A B ca cb W h1 h2 HLA.out HLB.out (by omega) (by omega) (R := R)
  have hc1 := fun W h1 R => ref21_Check a A ca W h1 (by omega) (R := R)
  have hc2 := fun W h1 R => ref21_Check b B cb W h1 (by omega) (R := R)
  have hdl := diff_len a b
  have hul := unR_len a b
  obtain ⟨⟨K, L, E⟩, hD⟩ : ∃ x, diffR a b = x := ⟨_, rfl⟩
  obtain ⟨U, hU⟩ : ∃ x, unR a b = x := ⟨_, rfl⟩
  rw [hD] at hdf hdl
  rw [hU] at hun hul
  dsimp only at hdf hdl
  have hKL : K.length ≤ 120 := by omega
  have hUL : U.length ≤ 120 := by omega
  have HD := Lib.hid hD
  have HU := Lib.hid hU
  clear hD hU hdl hul
  go_wp2_with fail
  refine hdf w1 (ha.below hx (Nat.le_refl _)) (hb.below hx (Nat.le_refl _)) _ ?_
  intro A5 c5 w2 hk5 hb2
  replace hx := hx.trans (hb2.mono hx.size)
  clear hb2 hdf
  have hkr := Row.of_own hk5
  clear hk5
  go_wp2_with fail
  refine hun w2 (ha.below hx (Nat.le_refl _)) (hb.below hx (Nat.le_refl _)) _ ?_
  intro A8 c8 w3 hk8 hb2
  replace hkr := hkr.below hb2 (Nat.le_refl _)
  replace hx := hx.trans (hb2.mono hx.size)
  clear hb2 hun
  have hur := Row.of_own hk8
  clear hk8
  go_wp2_with fail
  refine hc1 w3 (ha.below hx (Nat.le_refl _)) _ ?_
  intro w4 hb2
  replace hkr := hkr.below hb2 (Nat.le_refl _)
  replace hur := hur.below hb2 (Nat.le_refl _)
  replace hx := hx.trans (hb2.mono hx.size)
  clear hb2 hc1
  by_cases h1 : checkT a = 0
  rotate_left
  · have e1 := HD.out
    rw [diff_a h1] at e1
    have e2 := HU.out
    rw [unR_a h1] at e2
    injection e1 with e3 e4
    injection e4 with e4 e5
    subst e3 e4 e5 e2
    have hz1 : (checkT a == 0) = false := by simpa using h1
    have hz2 : (checkT a != 0) = true := by simpa using h1
    clear HD HU h1
    generalize checkT a = z at *
    go_wp2_with fail
    first | exact ⟨rfl, hx⟩ | (go_ret; exact ⟨rfl, hx⟩)
  rw [h1]
  go_wp2_with fail
  refine hc2 w4 (hb.below hx (Nat.le_refl _)) _ ?_
  intro w5 hb2
  replace hkr := hkr.below hb2 (Nat.le_refl _)
  replace hur := hur.below hb2 (Nat.le_refl _)
  replace hx := hx.trans (hb2.mono hx.size)
  clear hb2 hc2
  by_cases h2 : checkT b = 0
  rotate_left
  · have e1 := HD.out
    rw [diff_b h1 h2] at e1
    have e2 := HU.out
    rw [unR_b h2] at e2
    injection e1 with e3 e4
    injection e4 with e4 e5
    subst e3 e4 e5 e2
    have hz1 : (checkT b == 0) = false := by simpa using h2
    have hz2 : (checkT b != 0) = true := by simpa using h2
    clear HD HU h2 h1
    generalize checkT b = z at *
    go_wp2_with fail
    first | exact ⟨rfl, hx⟩ | (go_ret; exact ⟨rfl, hx⟩)
  rw [h2]
  have hta := checkT_ok h1
  have htb := checkT_ok h2
  have hu := HU.out
  rw [unR_ok h1 h2] at hu
  have hru := fun W k1 k2 R => ref21_Unlike a b A B ca cb W k1 k2 hta htb (by omega) (by omega) (R := R)
  rw [hu] at hru
  have HTA := Lib.hid hta
  have HTB := Lib.hid htb
  have H1 := Lib.hid h1
  have H2 := Lib.hid h2
  clear hu h1 h2 hta htb HU
  go_wp2_with fail
  refine hru w5 (ha.below hx (Nat.le_refl _)) (hb.below hx (Nat.le_refl _)) _ ?_
  intro A9 c9 w6 hk9 hb2
  replace hkr := hkr.below hb2 (Nat.le_refl _)
  replace hur := hur.below hb2 (Nat.le_refl _)
  replace hx := hx.trans (hb2.mono hx.size)
  have hur2 := Row.of_own hk9
  clear hb2 hk9 hru
  go_wp2_with fail
  refine ref21_Texts U U A8 A9 c8 c9 w6 hur hur2 (by omega) ?_
  rw [decide_eq_true rfl]
  intro w7 hb2
  replace hkr := hkr.below hb2 (Nat.le_refl _)
  replace hx := hx.trans (hb2.mono hx.size)
  clear hb2 hur hur2
  have hpa := fun W hW R => ref21_Page 32 emp a A ca W rfl (by decide) hW (by omega) (R := R)
  have hpb := fun W hW R => ref21_Page 32 emp b B cb W rfl (by decide) hW (by omega) (R := R)
  rw [show belowR emp a = a from below_all a] at hpa
  rw [show belowR emp b = b from below_all b] at hpb
  obtain ⟨⟨g, oa⟩, hg⟩ : ∃ x, pgR emp a = x := ⟨_, rfl⟩
  obtain ⟨⟨h, ob⟩, hh⟩ : ∃ x, pgR emp b = x := ⟨_, rfl⟩
  rw [hg] at hpa
  rw [hh] at hpb
  have HG := Lib.hid hg
  have HH := Lib.hid hh
  clear hg hh
  go_wp2_with fail
  refine hpa w7 (ha.below hx (Nat.le_refl _)) _ ?_
  intro B1 B2 d1 d2 w8 _ _ hb2
  dsimp only
  replace hkr := hkr.below hb2 (Nat.le_refl _)
  replace hx := hx.trans (hb2.mono hx.size)
  clear hb2 hpa
  go_upto_region 15 with fail
  have hb2 := (Below.refl w8.heap.size w8).alloc (Nat.le_refl _) (.cells #[.string g.pre, .bool g.leaf, .slice B1 g.sl.length d1, .slice B2 g.it.length d2] 27)
  replace hkr := hkr.below hb2 (Nat.le_refl _)
  replace hx := hx.trans (hb2.mono hx.size)
  generalize w8.alloc (.cells #[.string g.pre, .bool g.leaf, .slice B1 g.sl.length d1, .slice B2 g.it.length d2] 27) = w9 at *
  clear hb2
  go_wp2_with fail
  refine hpb w9 (hb.below hx (Nat.le_refl _)) _ ?_
  intro B3 B4 d3 d4 w10 _ _ hb2
  dsimp only
  replace hkr := hkr.below hb2 (Nat.le_refl _)
  replace hx := hx.trans (hb2.mono hx.size)
  clear hb2 hpb
  go_upto_region 16 with fail
  have hb2 := (Below.refl w10.heap.size w10).alloc (Nat.le_refl _) (.cells #[.string h.pre, .bool h.leaf, .slice B3 h.sl.length d3, .slice B4 h.it.length d4] 27)
  replace hkr := hkr.below hb2 (Nat.le_refl _)
  replace hx := hx.trans (hb2.mono hx.size)
  generalize w10.alloc (.cells #[.string h.pre, .bool h.leaf, .slice B3 h.sl.length d3, .slice B4 h.it.length d4] 27) = w11 at *
  clear hb2
  by_cases hok : oa = true ∧ ob = true
  · obtain ⟨rfl, rfl⟩ := hok
    have e1 := HD.out
    rw [diff_ok H1.out H2.out (by rw [HG.out]) (by rw [HH.out])] at e1
    have hcm := fun W k1 k2 R => ref21_Compare 32 emp a b A B ca cb W rfl (by rw [show belowR emp a = a from below_all a, HG.out]) (by rw [show belowR emp b = b from below_all b, HH.out]) k1 k2 hsa hsb HTA.out HTB.out (R := R)
    rw [show belowR emp a = a from below_all a, show belowR emp b = b from below_all b] at hcm
    generalize cmpK 32 emp a b = CK at *
    obtain ⟨K2, L2, O2⟩ := CK
    injection e1 with e3 e4
    injection e4 with e4 e5
    dsimp only at e3 e4 hcm
    subst e3 e4 e5
    clear HD HG HH
    go_wp2_with fail
    refine hcm w11 (ha.below hx (Nat.le_refl _)) (hb.below hx (Nat.le_refl _)) _ ?_
    intro A12 c12 w12 hk12 hb2
    replace hkr := hkr.below hb2 (Nat.le_refl _)
    replace hx := hx.trans (hb2.mono hx.size)
    have hkr2 := Row.of_own hk12
    clear hb2 hk12 hcm
    go_wp2_with fail
    refine ref21_Texts K2 K2 A5 A12 c5 c12 w12 hkr hkr2 (by omega) ?_
    rw [decide_eq_true rfl]
    intro w13 hb2
    replace hx := hx.trans (hb2.mono hx.size)
    clear hb2
    go_wp2_with fail
    first | exact ⟨rfl, hx⟩ | (go_ret; exact ⟨rfl, hx⟩)
  · have hbad : oa = false ∨ ob = false := by cases oa <;> cases ob <;> simp at hok ⊢
    have e1 := HD.out
    rw [diff_no H1.out H2.out (by rw [HG.out, HH.out]; exact hbad)] at e1
    injection e1 with e3 e4
    injection e4 with e4 e5
    subst e3 e4 e5
    clear HD HG HH hok
    cases oa
    · go_wp2_with fail
      first | exact ⟨rfl, hx⟩ | (go_ret; exact ⟨rfl, hx⟩)
    · have : ob = false := by simpa using hbad
      subst this
      go_wp2_with fail
      first | exact ⟨rfl, hx⟩ | (go_ret; exact ⟨rfl, hx⟩)
end
end Go.Proofs.Ytlkjonlipnmbnaa
