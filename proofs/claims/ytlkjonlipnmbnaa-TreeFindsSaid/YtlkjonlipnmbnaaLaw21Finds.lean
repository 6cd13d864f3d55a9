/- TreeFinds' walk. -/
import Derived.Test.YtlkjonlipnmbnaaLaw21Diffs
namespace Go.Proofs.Ytlkjonlipnmbnaa
open Go.RowKit Go.Lib
section
theorem diff_err {a b : List It} (h : (diffR a b).2.2 ≠ 0) : (diffR a b).1 = [] := by
  unfold diffR at h ⊢
  split
  · rfl
  · split
    · rfl
    · split
      · next h1 h2 h3 => rw [if_neg h1, if_neg h2, if_pos h3] at h; exact absurd rfl h
      · rfl
theorem diff_fine {a b : List It} (h : (diffR a b).2.2 = 0) : TOk a ∧ TOk b ∧ (pgR emp a).2 = true ∧ (pgR emp b).2 = true ∧ (diffR a b).1 = (cmpK 32 emp a b).1 ∧ (diffR a b).2.1 = (cmpK 32 emp a b).2.1 := by
  by_cases h1 : checkT a = 0
  · by_cases h2 : checkT b = 0
    · by_cases h3 : (pgR emp a).2 = true ∧ (pgR emp b).2 = true
      · have := diff_ok h1 h2 h3.1 h3.2
        rw [this]
        exact ⟨checkT_ok h1, checkT_ok h2, h3.1, h3.2, rfl, rfl⟩
      · unfold diffR at h
        rw [if_neg (fun e => e h1), if_neg (fun e => e h2), if_neg h3] at h
        exact absurd h (by decide)
    · rw [diff_b h1 h2] at h; exact absurd h h2
  · rw [diff_a h1] at h; exact absurd h h1
theorem sub_step {K un : List ByteArray} {i k : Nat} (h : (K.drop k).Sublist (un.drop i)) (hi : i < un.length) (hk : k < K.length) :
    (un.getD i emp = K.getD k emp → (K.drop (k + 1)).Sublist (un.drop (i + 1))) ∧ (un.getD i emp ≠ K.getD k emp → (K.drop k).Sublist (un.drop (i + 1))) := by
  rw [List.drop_eq_getElem_cons hi, List.drop_eq_getElem_cons hk] at h
  rw [getD_at un i _ hi, getD_at K k _ hk]
  refine ⟨fun e => ?_, fun e => ?_⟩
  · rw [e] at h
    exact (List.cons_sublist_cons).1 h
  · rw [List.drop_eq_getElem_cons hk]
    generalize un[i] = x at *
    generalize K[k] = y at *
    cases h with
    | cons _ h => exact h
    | cons_cons _ h => exact absurd rfl e
set_option maxHeartbeats 8000000 in
set_option maxRecDepth 100000 in
theorem law21_finds (a b : List It) {na nb : Nat} (hna : a.length = na) (hnb : b.length = nb) (A B : Option Addr) (ca cb : Nat) (w : World) (ha : Row w A (flat itC a)) (hb : Row w B (flat itC b)) (hla : na ≤ ca) (hlb : nb ≤ cb) :
    Calls Try.prog 5 #[.slice A na ca, .slice B nb cb] w fun e w' => e = .returned (.bool true) ∧ Below w.heap.size w w' := by
  subst hna hnb
  go_enter Try.func5, Try.ntmps5
  go_wp2_with fail
  refine law21_awake w ?_
  intro w1 hx
  go_wp2_with fail
  refine ref21_Great a A ca w1 (ha.below hx (Nat.le_refl _)) ?_
  intro z hz
  cases z
  rotate_left
  · go_wp2_with fail
    first | exact ⟨rfl, hx⟩ | (go_ret; exact ⟨rfl, hx⟩)
  have hsa := hz rfl
  clear hz
  go_wp2_with fail
  refine ref21_Great b B cb w1 (hb.below hx (Nat.le_refl _)) ?_
  intro z hz
  cases z
  rotate_left
  · go_wp2_with fail
    first | exact ⟨rfl, hx⟩ | (go_ret; exact ⟨rfl, hx⟩)
  have hsb := hz rfl
  clear hz
  have HLA := Lib.hid hla
  have HLB := Lib.hid hlb
  clear hla hlb
  have hdf := fun W h1 h2 R => tree_Diff a b A B ca cb W h1 h2 HLA.out HLB.out hsa hsb (R := R)
  have hdl := diff_len a b
  have hde := diff_err (a := a) (b := b)
  have hdo := diff_fine (a := a) (b := b)
  obtain ⟨⟨K, L, E⟩, hD⟩ : ∃ x, diffR a b = x := ⟨_, rfl⟩
  rw [hD] at hdf hdl hde hdo
  dsimp only at hdf hdl hde hdo
  have hKL : K.length ≤ 120 := by omega
  have HDE := Lib.hid hde
  have HDO := Lib.hid hdo
  clear hD hdl hde hdo
  go_wp2_with fail
  refine hdf w1 (ha.below hx (Nat.le_refl _)) (hb.below hx (Nat.le_refl _)) _ ?_
  intro A5 c5 w2 hk5 hb2
  replace hx := hx.trans (hb2.mono hx.size)
  clear hb2 hdf
  have hkr := Row.of_own hk5
  clear hk5
  by_cases he : E = 0
  rotate_left
  · have hk := HDE.out he
    subst hk
    have hz : (E != 0) = true := by simpa using he
    clear he HDE HDO
    go_wp2_with fail
    first | exact ⟨rfl, hx⟩ | (go_ret; exact ⟨rfl, hx⟩)
  obtain ⟨hta, htb, hoa, hob, hk, hl⟩ := HDO.out he
  subst he
  have hcm := fun W k1 k2 R => ref21_Compare 32 emp a b A B ca cb W rfl (by rw [show belowR emp a = a from below_all a]; exact hoa) (by rw [show belowR emp b = b from below_all b]; exact hob) k1 k2 hsa hsb hta htb (R := R)
  rw [show belowR emp a = a from below_all a, show belowR emp b = b from below_all b] at hcm
  have hcs := cmp_sub 32 (p := emp) rfl hta htb (beg_emp a) (beg_emp b)
  have hru := fun W k1 k2 R => ref21_Unlike a b A B ca cb W k1 k2 hta htb (by omega) (by omega) (R := R)
  have hul := unl_len _ a b (Nat.le_refl _)
  have hlk : unlR a b = [] → L = 1 := fun e => by
    have hab := unl_same _ a b (Nat.le_refl _) e
    rw [hl, hab, cmp_self]
  have hodd := fun ho => hcs.2 hoa hob ho
  have hsub := hcs.1
  generalize cmpK 32 emp a b = CK at *
  obtain ⟨K2, L2, O2⟩ := CK
  dsimp only at hk hl hcm hsub hodd
  subst hk hl
  generalize unlR a b = U at *
  have HLK := Lib.hid hlk
  have HODD := Lib.hid hodd
  have hUL : U.length ≤ 120 := by omega
  have HTA := Lib.hid hta
  have HTB := Lib.hid htb
  have HSUB := Lib.hid hsub
  clear hlk hodd hta htb hoa hob hsub hcs hul HDE HDO
  go_wp2_with fail
  refine hru w2 (ha.below hx (Nat.le_refl _)) (hb.below hx (Nat.le_refl _)) _ ?_
  intro A8 c8 w3 hk8 hb2
  replace hkr := hkr.below hb2 (Nat.le_refl _)
  replace hx := hx.trans (hb2.mono hx.size)
  have hur := Row.of_own hk8
  clear hb2 hk8 hru
  have hU0 : (0 : Int) ≤ (U.length : Int) := Int.natCast_nonneg _
  have hK0 : (0 : Int) ≤ (K.length : Int) := Int.natCast_nonneg _
  go_wp2_with fail
  go_loopw [9, 10] (fun s9 i wx => ∃ (j k : Nat), i = .int .i64 (j : Int) ∧ j ≤ U.length ∧ s9 = .int .i64 (k : Int) ∧ k ≤ K.length ∧ Hid ((K.drop k).Sublist (U.drop j)) ∧ Below w3.heap.size w3 wx) (fun _ i _ => U.length - (RowKit.intOf i).toNat)
  case atStart => exact ⟨0, 0, rfl, Nat.zero_le _, rfl, Nat.zero_le _, HSUB, Below.refl _ _⟩
  case round =>
    obtain ⟨j, k, rfl, hj, rfl, hk, HS, hxw⟩ := hrel
    have hj0 : (0 : Int) ≤ (j : Int) := Int.natCast_nonneg _
    have hk0 : (0 : Int) ≤ (k : Int) := Int.natCast_nonneg _
    by_cases hgo : j < U.length ∧ k < K.length
    · obtain ⟨hju, hkk⟩ := hgo
      have hj1 : (j : Int) < (U.length : Int) := by omega
      have hj2 : decide ((j : Int) < (U.length : Int)) = true := decide_eq_true hj1
      have hk1 : (k : Int) < (K.length : Int) := by omega
      have hk2 : decide ((k : Int) < (K.length : Int)) = true := decide_eq_true hk1
      obtain ⟨b1, o1, hA, _, d0⟩ := (hur.below hxw (Nat.le_refl _)).txt j hju
      obtain ⟨b2, o2, hB, _, e0⟩ := (hkr.below hxw (Nat.le_refl _)).txt k hkk
      have hst := sub_step HS.out hju hkk
      generalize U.getD j emp = x at *
      generalize K.getD k emp = y at *
      subst hA
      subst hB
      by_cases he : x = y
      · have HM := Lib.hid (hst.1 he)
        subst he
        clear hst HS
        go_wp2_with fail
        go_quiet (fail)
        go_wp2_with fail
        replace hxw := below_drewN hxw nq
        go_roundw
        case rel => exact ⟨j + 1, k + 1, by go_num, by omega, by go_num, by omega, HM, hxw⟩
        case measure => simp [RowKit.intOf]; omega
      · have HM := Lib.hid (hst.2 he)
        have hq := ne_beq he
        clear hst HS he
        go_wp2_with fail
        go_quiet (fail)
        go_wp2_with fail
        replace hxw := below_drewN hxw nq
        go_roundw
        case rel => exact ⟨j + 1, k, by go_num, by omega, rfl, by omega, HM, hxw⟩
        case measure => simp [RowKit.intOf]; omega
    · have hkK : k = K.length := by
        rcases Nat.lt_or_ge k K.length with hlt | hge
        · have hge : U.length ≤ j := by
            rcases Nat.lt_or_ge j U.length with h0 | h0
            · exact absurd ⟨h0, hlt⟩ hgo
            · exact h0
          have hs := HS.out
          rw [List.drop_eq_nil_of_le hge, List.sublist_nil, List.drop_eq_nil_iff] at hs
          omega
        · omega
      have hk3 : ¬ (k : Int) < (K.length : Int) := by omega
      have hk4 : decide ((k : Int) < (K.length : Int)) = false := decide_eq_false hk3
      have hxf := hx.trans (hxw.mono hx.size)
      have hcw := fun R => hcm wr (ha.below hxf (Nat.le_refl _)) (hb.below hxf (Nat.le_refl _)) R
      subst hkK
      have hkz : ((K.length : Int) != (K.length : Int)) = false := by simp
      by_cases hu : U = []
      · have hl := HLK.out hu
        have hkn : K = [] := by have := HSUB.out; rw [hu] at this; exact List.sublist_nil.1 this
        subst hu hkn hl
        clear hcw hcm hgo
        go_wp2_with fail
        first | exact ⟨rfl, hxf⟩ | (go_ret; exact ⟨rfl, hxf⟩)
      · have hu0 : U.length ≠ 0 := fun e => hu (List.eq_nil_of_length_eq_zero e)
        have hz : ((U.length : Int) == 0) = false := by simp; exact hu
        have hz' : (U.length == 0) = false := by simp; exact hu
        by_cases hke : K.length = U.length
        · have hz2 : ((K.length : Int) == (U.length : Int)) = true := by simp [hke]
          have hz3 : (K.length == U.length) = true := by simp [hke]
          clear hcw hcm hgo hke hu hu0 hK0
          go_wp2_with fail
          all_goals (first | exact ⟨rfl, hxf⟩ | (go_ret; exact ⟨rfl, hxf⟩))
        · have hz2 : ((K.length : Int) == (U.length : Int)) = false := by simp; omega
          have hz3 : (K.length == U.length) = false := by simpa using hke
          have ho : O2 = true := by
            cases O2
            · exact absurd (congrArg List.length (HODD.out rfl)) hke
            · rfl
          subst ho
          clear hcm hgo hke hu hu0
          by_cases hju : j < U.length
          · have hj1 : (j : Int) < (U.length : Int) := by omega
            have hj2 : decide ((j : Int) < (U.length : Int)) = true := decide_eq_true hj1
            go_wp2_with fail
            refine hcw _ ?_
            intro A9 c9 w9 _ hb9
            go_wp2_with fail
            first | exact ⟨rfl, hxf.trans (hb9.mono hxf.size)⟩ | (go_ret; exact ⟨rfl, hxf.trans (hb9.mono hxf.size)⟩)
          · have hj1 : ¬ (j : Int) < (U.length : Int) := by omega
            have hj2 : decide ((j : Int) < (U.length : Int)) = false := decide_eq_false hj1
            go_wp2_with fail
            refine hcw _ ?_
            intro A9 c9 w9 _ hb9
            go_wp2_with fail
            first | exact ⟨rfl, hxf.trans (hb9.mono hxf.size)⟩ | (go_ret; exact ⟨rfl, hxf.trans (hb9.mono hxf.size)⟩)
end
end Go.Proofs.Ytlkjonlipnmbnaa
