/- awake of layer 7; what frames' bytes are. -/
import Derived.Test.YtkicaiecmipieaaFrameBack
import Derived.Test.YtkicaiecmipieaaFrameEnc
import Derived.Test.YtkicaiecmipieaaFrameDec
namespace Go.Proofs.Ytkicaiecmipieaa
open Go.RowKit Go.Lib

theorem frameEnc_size (v kd : Int) (p : ByteArray) : (frameEnc v kd p).2 = 0 → (frameEnc v kd p).1.size = 8 + (encR p.size).size + p.size := by
  unfold frameEnc
  split
  · intro h; cases h
  · split
    · intro h; cases h
    · intro _
      dsimp only
      rw [ByteArray.size_append, ByteArray.size_append, beB_size, bodyF_size]
      show 2 + _ + 4 = _
      omega
theorem frameEnc_le (v kd : Int) (p : ByteArray) : (frameEnc v kd p).1.size ≤ 65547 := by
  unfold frameEnc
  split
  · exact Nat.zero_le _
  · split
    · exact Nat.zero_le _
    · dsimp only
      have := encR_three p.size (by omega)
      rw [ByteArray.size_append, ByteArray.size_append, beB_size, bodyF_size]
      show 2 + _ + 4 ≤ _
      omega

theorem frD_enc (v kd : Int) (p more t : ByteArray) (h : frameEnc v kd p = (t, 0)) (hk0 : 0 ≤ kd) (hk1 : kd < 256) :
    frD (t ++ more) = ((v, kd, p), t.size, 0) ∧ roomR (p.size : Int) = (t.size : Int) ∧ t.size ≤ 65547 := by
  have hv : v = 1 ∨ v = 2 := Classical.byContradiction fun hn => by unfold frameEnc at h; rw [if_pos hn] at h; cases h
  have hp : p.size ≤ 65536 := Classical.byContradiction fun hn => by unfold frameEnc at h; rw [if_neg (fun h => h hv), if_pos (by omega)] at h; cases h
  have hz := frameEnc_size v kd p (by rw [h])
  have hl := frameEnc_le v kd p
  have hf := frT_enc v kd p more hv hk0 hk1 hp
  rw [h] at hz hf hl
  dsimp only at hz hf hl
  refine ⟨?_, ?_, hl⟩
  · unfold frD
    rw [hf]
    exact if_pos rfl
  · unfold roomR
    rw [if_neg (by omega), Int.toNat_natCast]
    omega

set_option maxRecDepth 100000 in
theorem law07_awake (w : World) :
    Calls Try.prog 26 #[] w fun e w' => e = .returned (.bool true) ∧ Below w.heap.size w w' := by
  have hfe : frameEnc 2 1 ⟨#[97]⟩ = (⟨#[215, 78, 2, 1, 1, 97]⟩ ++ beB 4 (crcSum (bodyF 2 1 ⟨#[97]⟩)), 0) := by
    unfold frameEnc
    rw [if_neg (by decide), if_neg (by decide)]
    rfl
  have hz4 := beB_size 4 (crcSum (bodyF 2 1 ⟨#[97]⟩))
  generalize beB 4 (crcSum (bodyF 2 1 ⟨#[97]⟩)) = t at *
  have hz : (⟨#[215, 78, 2, 1, 1, 97]⟩ ++ t : ByteArray).size = 10 := by rw [ByteArray.size_append, hz4]; rfl
  have hx : (⟨#[215, 78, 2, 1, 1, 97]⟩ ++ t : ByteArray).extract 0 6 = ⟨#[215, 78, 2, 1, 1, 97]⟩ := by
    have := mid_extract ⟨#[]⟩ ⟨#[215, 78, 2, 1, 1, 97]⟩ t 0 6 rfl rfl
    rw [empty_append] at this
    exact this
  generalize (⟨#[215, 78, 2, 1, 1, 97]⟩ ++ t : ByteArray) = s at *
  have hz' : (s.size : Int) = 10 := by omega
  have HF := Lib.hid hfe
  clear hfe hz4
  go_enter Try.func26, Try.ntmps26
  go_wp2_with fail
  refine frame_New _ ?_
  intro k z w1 hcd hk hz0 hb1
  go_wp2_with fail
  refine frame_Encode _ _ 2 1 ⟨#[97]⟩ _ hcd (by decide) (by decide) (by decide) (by decide) (by decide) ?_
  rw [HF.out]; dsimp only
  intro w2 hcd2 hx2
  have hb2 := below_ext hb1 (Nat.le_refl _) hx2 (fun b hb => by injection hb with hb; omega)
  go_wp2
  go_ret
  exact ⟨rfl, hb2⟩
end Go.Proofs.Ytkicaiecmipieaa
