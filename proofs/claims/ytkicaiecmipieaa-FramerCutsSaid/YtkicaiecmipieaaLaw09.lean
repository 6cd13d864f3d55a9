/- awake of layer 9. -/
import Derived.Test.YtkicaiecmipieaaFramerPush
import Derived.Test.YtkicaiecmipieaaRef09
namespace Go.Proofs.Ytkicaiecmipieaa
open Go.RowKit Go.Lib

/-- The beginnings of a frame's bytes hold no frame; the whole holds it. -/
theorem fs_enc_cut {t : ByteArray} {f : Fr} (h : frD t = (f, t.size, 0)) (j : Nat) (hj : j < t.size) : Fs (t.extract 0 j) [] j 0 := by
  have hz : (t.extract 0 j).size = j := by rw [ByteArray.size_extract]; omega
  by_cases h0 : j = 0
  · subst h0; exact .nil hz
  · have hsp : t.extract 0 j ++ t.extract j t.size = t := by rw [ext_join t 0 j t.size (Nat.zero_le _) (by omega), ext_all]
    obtain ⟨v, kd, p⟩ := f
    have := frD_cut (x := t.extract 0 j) (y := t.extract j t.size) (by rw [hsp]; exact h) (by rw [hz]; exact hj)
    have hs := Fs.short (u := t.extract 0 j) (f := (frD (t.extract 0 j)).1) (n := (frD (t.extract 0 j)).2.1) (by omega) (by rw [← this])
    rwa [hz] at hs
theorem fs_enc_all {t : ByteArray} {f : Fr} (h : frD t = (f, t.size, 0)) (h0 : 0 < t.size) : Fs t [f] 0 0 :=
  .more h0 h (.nil (by rw [ByteArray.size_extract]; omega))
theorem tailB_all (u : ByteArray) : tailB u u.size = u := by unfold tailB; rw [Nat.sub_self, ext_all]

def AwakeRel (W : World) (B g k z : Nat) (s : ByteArray) (i : Value) (w : World) : Prop :=
  ∃ j : Nat, i = .int .i64 (j : Int) ∧ j < s.size ∧ Fmr w B g k z (s.extract 0 j) 0 0 ∧ Below W.heap.size W w ∧ B ≤ w.heap.size

set_option maxHeartbeats 2000000 in
set_option maxRecDepth 100000 in
theorem law09_awake (w : World) {R : Ending → World → Prop} (hR : ∀ w', Below w.heap.size w w' → R (.returned (.bool true)) w') :
    Calls Try.prog 12 #[] w R := by
  obtain ⟨s, e, hE⟩ : ∃ t e, frameEnc 1 4 ⟨#[]⟩ = (t, e) := ⟨_, _, rfl⟩
  have he : e = 0 := by
    have : (frameEnc 1 4 ⟨#[]⟩).2 = 0 := by unfold frameEnc; rw [if_neg (by decide), if_neg (by decide)]
    rw [hE] at this
    exact this
  subst he
  have hd := (frD_enc 1 4 ⟨#[]⟩ ⟨#[]⟩ s hE (by decide) (by decide)).1
  rw [ba_nil] at hd
  have hz := frameEnc_size 1 4 ⟨#[]⟩ (by rw [hE])
  have hz2 := frameEnc_le 1 4 ⟨#[]⟩
  rw [hE] at hz hz2
  dsimp only at hz hz2
  have hs8 : 8 ≤ s.size := by omega
  have HD := Lib.hid hd
  have HE := Lib.hid hE
  have HR := Lib.hid hR
  clear hd hE hR hz
  go_enter Try.func12, Try.ntmps12
  go_wp2_with fail
  refine ref07_Encode 1 4 ⟨#[]⟩ _ (by decide) ?_
  rw [HE.out]; dsimp only
  intro w1 hb1
  go_wp2_with fail
  refine framer_New _ ?_
  intro g k z w2 hf2 hb2
  have hb12 := hb2
  have hbel2 := hb1.trans (hb2.mono hb1.size)
  have hwb := hb1.size
  clear hb1
  go_wp2_with fail
  have hs0 : (8 : Int) ≤ (s.size : Int) := by omega
  have hs1 : (s.size : Int) ≤ 65547 := by omega
  have hB2 := (show w1.heap.size ≤ w2.heap.size from hb12.size)
  generalize w1.heap.size = B at *
  go_loopw [4] (AwakeRel w B g k z s) (fun i _ => s.size - (RowKit.intOf i).toNat)
  case atStart => exact ⟨0, rfl, by omega, by rw [ext_none]; exact hf2, hbel2, hB2⟩
  case round =>
    obtain ⟨j, rfl, hj, hf, hbel, hB⟩ := hrel
    clear hf2 hbel2 hB2 hb2 hb12
    have hj0 : (0 : Int) ≤ (j : Int) := Int.natCast_nonneg _
    have hjs : (j : Int) < (s.size : Int) := by omega
    by_cases hlt : j + 1 < s.size
    · have hlt1 : (j : Int) + 1 < (s.size : Int) := by omega
      have hle2 : j ≤ j + 1 := by omega
      have hle3 : j + 1 ≤ s.size := by omega
      have hcut := fs_enc_cut HD.out (j + 1) hlt
      have hxx : s.extract 0 j ++ s.extract j (j + 1) = s.extract 0 (j + 1) := ext_join s 0 j (j + 1) (by omega) (by omega)
      have hsz : (s.extract 0 j).size + (s.extract j (j + 1)).size ≤ 1000000 := by rw [ByteArray.size_extract, ByteArray.size_extract]; omega
      have hfs : Fs (s.extract 0 j ++ s.extract j (j + 1)) [] (j + 1) 0 := by rw [hxx]; exact hcut
      have htl : tailB (s.extract 0 j ++ s.extract j (j + 1)) (j + 1) = s.extract 0 (j + 1) := by
        rw [hxx]
        have h := tailB_all (s.extract 0 (j + 1))
        rwa [show (s.extract 0 (j + 1)).size = j + 1 from by rw [ByteArray.size_extract]; omega] at h
      have HTL := Lib.hid htl
      have HFS := Lib.hid hfs
      clear hcut hxx hfs htl
      go_wp2_with fail
      refine framer_Push _ B g k z _ _ 0 hf [] (j + 1) 0 HFS.out hsz (by decide) hB ?_
      rw [if_pos rfl, HTL.out]
      intro A cc w3 _ hf3 hx3
      have hbel3 := below_ext hbel (Nat.le_refl _) hx3 (fun b hb => Nat.le_trans hwb hb.1)
      go_wp2
      go_roundw
      case rel => exact ⟨j + 1, by go_num, hlt, hf3, hbel3, Nat.le_trans hB hx3.size⟩
      case measure => simp [RowKit.intOf]; omega
    · obtain ⟨m, hm⟩ : ∃ m, s.size = m + 1 := ⟨s.size - 1, by omega⟩
      obtain rfl : j = m := by omega
      have hlt1 : ¬ (j : Int) + 1 < (s.size : Int) := by omega
      have hm1 : (s.size : Int) - 1 = (j : Int) := by omega
      have hle3 : j ≤ s.size := by omega
      have hxx : s.extract 0 j ++ s.extract j s.size = s := by rw [ext_join s 0 j s.size (by omega) (by omega), ext_all]
      have hsz : (s.extract 0 j).size + (s.extract j s.size).size ≤ 1000000 := by rw [ByteArray.size_extract, ByteArray.size_extract]; omega
      have hfs : Fs (s.extract 0 j ++ s.extract j s.size) [(1, 4, ⟨#[]⟩)] 0 0 := by rw [hxx]; exact fs_enc_all HD.out (by omega)
      have htl : tailB (s.extract 0 j ++ s.extract j s.size) 0 = ⟨#[]⟩ := by rw [hxx]; unfold tailB; rw [Nat.sub_zero, ext_none]
      have HTL := Lib.hid htl
      have HFS := Lib.hid hfs
      have HM := Lib.hid hm
      clear hxx hfs htl hm hlt
      have HM1 := Lib.hid hm1
      clear hm1
      go_wp2_with fail
      rw [show s.size - 1 = j from by have := HM.out; omega]
      refine framer_Push _ B g k z _ _ 0 hf [(1, 4, ⟨#[]⟩)] 0 0 HFS.out hsz (by decide) hB ?_
      rw [if_pos rfl, HTL.out]
      intro A cc w3 hown3 hf3 hx3
      have hbel3 := below_ext hbel (Nat.le_refl _) hx3 (fun b hb => Nat.le_trans hwb hb.1)
      obtain ⟨b, o, rfl, _, hc⟩ := (Row.of_own hown3).at_ frC_len (by decide) 0 (by decide)
      have c1 := hc 1 (.int .u8 4) rfl
      rw [Nat.zero_mul, Nat.zero_add] at c1
      clear hc hown3
      go_wp2_with fail
      refine (framer_Told _ _ _ _ _ _ _ _ hf3).mono ?_
      rintro y w4 ⟨rfl, rfl⟩
      go_wp2_with fail
      refine (framer_Kept _ _ _ _ _ _ _ _ hf3).mono ?_
      rintro y w4 ⟨rfl, rfl⟩
      go_wp2
      exact HR.out _ hbel3
end Go.Proofs.Ytkicaiecmipieaa
