/- FrameEncodes' walk. -/
import Derived.Deep.DeepCutAuto
import Derived.Test.YtkicaiecmipieaaLaw07A
import Derived.Test.YtkicaiecmipieaaRef07e
namespace Go.Proofs.Ytkicaiecmipieaa
open Go.RowKit Go.Lib

set_option maxHeartbeats 4000000 in
set_option maxRecDepth 100000 in
theorem law07_encodes (v kd : Int) (p more : ByteArray) (w : World) (hv0 : 0 ≤ v) (hv1 : v < 256) (hk0 : 0 ≤ kd) (hk1 : kd < 256) :
    Calls Try.prog 6 #[.agg #[.int .u8 v, .int .u8 kd, .string p], .string more] w fun e w' => e = .returned (.bool true) ∧ Below w.heap.size w w' := by
  obtain ⟨t, e, hE⟩ : ∃ t e, frameEnc v kd p = (t, e) := ⟨_, _, rfl⟩
  have HE := Lib.hid hE
  clear hE
  go_enter Try.func6, Try.ntmps6
  go_upto_region 1 with fail
  have hB0 : Blk (w.alloc (.cells #[.int .u8 v, .int .u8 kd, .string p] 39)) w.heap.size 39 #[.int .u8 v, .int .u8 kd, .string p] := Blk.new _ _ _
  have hb0 : Below w.heap.size w (w.alloc (.cells #[.int .u8 v, .int .u8 kd, .string p] 39)) := (Below.refl _ _).alloc (Nat.le_refl _) _
  have hBW : w.heap.size ≤ w.heap.size := Nat.le_refl _
  generalize (w.alloc (.cells #[.int .u8 v, .int .u8 kd, .string p] 39)) = w0 at *
  obtain ⟨b, hb⟩ : ∃ b, w.heap.size = b := ⟨_, rfl⟩
  rw [hb] at hB0 ⊢
  have HBE := Lib.hid hb
  clear hb hBW
  go_wp2_with fail
  refine (law07_awake w0).mono ?_
  rintro y w1 ⟨rfl, hb1⟩
  have hB1 := hB0.below hb1 (Blk.lt hB0)
  have hb1 := hb0.trans (hb1.mono hb0.size)
  clear hB0 hb0
  have d2 : w1.cell? ⟨b, 2, none⟩ = some (.string p) := (Blk.cell hB1 2).trans rfl
  by_cases hbig : (2000 : Int) < (p.size : Int)
  · go_wp2
    go_ret
    exact ⟨rfl, hb1⟩
  · by_cases hbig2 : (2000 : Int) < (more.size : Int)
    · go_wp2
      go_ret
      exact ⟨rfl, hb1⟩
    · have hle1 : (p.size : Int) ≤ 2000 := by omega
      have hle2 : (more.size : Int) ≤ 2000 := by omega
      have hg1 : decide ((2000 : Int) < (p.size : Int)) = false := by simpa using hle1
      have hg2 : decide ((2000 : Int) < (more.size : Int)) = false := by simpa using hle2
      clear hbig hbig2
      go_wp2_with fail
      refine frame_New _ ?_
      intro k z w2 hcd2 hk hz hb2
      have hB2 := hB1.below hb2 (Blk.lt hB1)
      have hkb : k ≠ b := by have := Blk.lt hB1; omega
      have hzb : z ≠ b := by have := Blk.lt hB1; omega
      have hk := Nat.le_trans hb1.size hk
      have hz := Nat.le_trans hb1.size hz
      have hb2 := hb1.trans (hb2.mono hb1.size)
      clear hB1 hb1 d2
      have d0 : w2.cell? ⟨b, 0, none⟩ = some (.int .u8 v) := (Blk.cell hB2 0).trans rfl
      have d1 : w2.cell? ⟨b, 1, none⟩ = some (.int .u8 kd) := (Blk.cell hB2 1).trans rfl
      have d2 : w2.cell? ⟨b, 2, none⟩ = some (.string p) := (Blk.cell hB2 2).trans rfl
      go_wp2_with fail
      refine frame_Encode _ _ v kd p _ hcd2 (by omega) hv0 hv1 hk0 hk1 ?_
      rw [HE.out]; dsimp only
      intro w3 hcd3 hx3
      have hB3 := hB2.ext hx3 (fun h => hzb (Option.some.inj h))
      have hb3 := below_ext hb2 (Nat.le_refl _) hx3 (fun b h => (Option.some.inj h) ▸ hz)
      clear hcd2 hB2 hx3 hb2 d0 d1 d2
      have d0 : w3.cell? ⟨b, 0, none⟩ = some (.int .u8 v) := (Blk.cell hB3 0).trans rfl
      have d1 : w3.cell? ⟨b, 1, none⟩ = some (.int .u8 kd) := (Blk.cell hB3 1).trans rfl
      have d2 : w3.cell? ⟨b, 2, none⟩ = some (.string p) := (Blk.cell hB3 2).trans rfl
      go_wp2_with fail
      refine ref07_Encode v kd p _ (by omega) ?_
      rw [HE.out]; dsimp only
      intro w4 hb4
      have hB4 := hB3.below hb4 (Blk.lt hB3)
      have hcd4 := hcd3.below hb4 (Nat.le_refl _)
      have hb4 := hb3.trans (hb4.mono hb3.size)
      clear hcd3 hB3 hb3 d0 d1 d2
      have d0 : w4.cell? ⟨b, 0, none⟩ = some (.int .u8 v) := (Blk.cell hB4 0).trans rfl
      have d1 : w4.cell? ⟨b, 1, none⟩ = some (.int .u8 kd) := (Blk.cell hB4 1).trans rfl
      have d2 : w4.cell? ⟨b, 2, none⟩ = some (.string p) := (Blk.cell hB4 2).trans rfl
      go_wp2_with fail
      refine frame_Encode none none v kd p _ (.inl ⟨rfl, rfl⟩) (by omega) hv0 hv1 hk0 hk1 ?_
      rw [HE.out]; dsimp only
      intro w5 _ hx5
      have hB5 := hB4.ext hx5 (fun h => by cases h)
      have hcd5 := hcd4.ext hx5 (fun _ _ h => by cases h) (fun _ _ h => by cases h)
      have hb5 := below_ext hb4 (Nat.le_refl _) hx5 (fun b h => by cases h)
      clear hcd4 hB4 hb4 hx5 d0 d1 d2
      by_cases he : e = 0
      · subst he
        obtain ⟨hD, hR, htz⟩ := frD_enc v kd p more t HE.out hk0 hk1
        have HD := Lib.hid hD
        have HR := Lib.hid hR
        clear hD hR
        have hs1 : t.size + more.size ≤ 9223372036854775807 := by omega
        have hs2 : ¬ 9223372036854775807 < t.size + more.size := by omega
        have hs3 : (t ++ more).size ≤ 140737488351232 := by rw [ByteArray.size_append]; omega
        go_wp2_with fail
        obtain ⟨tm, htm⟩ : ∃ tm, t ++ more = tm := ⟨_, rfl⟩
        rw [htm] at HD hs3 ⊢
        have HTM := Lib.hid htm
        clear htm
        refine frame_Decode _ _ tm _ hcd5 hs3 ?_
        rw [HD.out]; dsimp only
        intro w6 hcd6 hx6
        have hB6 := hB5.ext hx6 (fun h => hzb (Option.some.inj h))
        have hb6 := below_ext hb5 (Nat.le_refl _) hx6 (fun b h => (Option.some.inj h) ▸ hz)
        clear hcd5 hB5 hx6 hb5
        go_upto_region 15 with fail
        have hB7 := hB6.alloc (.cells #[.int .u8 v, .int .u8 kd, .string p] 39)
        have hA7 : Blk (w6.alloc (.cells #[.int .u8 v, .int .u8 kd, .string p] 39)) w6.heap.size 39 #[.int .u8 v, .int .u8 kd, .string p] := Blk.new _ _ _
        have hb7 := hb6.alloc hb6.size (.cells #[.int .u8 v, .int .u8 kd, .string p] 39)
        generalize (w6.alloc (.cells #[.int .u8 v, .int .u8 kd, .string p] 39)) = w7 at *
        generalize w6.heap.size = A at *
        clear hB6 hb6 hcd6
        go_wp2_with fail
        rw [HTM.out]
        refine frame_Decode none none tm _ (.inl ⟨rfl, rfl⟩) hs3 ?_
        rw [HD.out]; dsimp only
        intro w8 _ hx8
        have hB8 := hB7.ext hx8 (fun h => by cases h)
        have hA8 := hA7.ext hx8 (fun h => by cases h)
        have hb8 := below_ext hb7 (Nat.le_refl _) hx8 (fun b h => by cases h)
        clear hB7 hA7 hb7 hx8
        go_upto_region 16 with fail
        have hB9 := hB8.alloc (.cells #[.int .u8 v, .int .u8 kd, .string p] 39)
        have hA9 := hA8.alloc (.cells #[.int .u8 v, .int .u8 kd, .string p] 39)
        have hG9 : Blk (w8.alloc (.cells #[.int .u8 v, .int .u8 kd, .string p] 39)) w8.heap.size 39 #[.int .u8 v, .int .u8 kd, .string p] := Blk.new _ _ _
        have hb9 := hb8.alloc hb8.size (.cells #[.int .u8 v, .int .u8 kd, .string p] 39)
        generalize (w8.alloc (.cells #[.int .u8 v, .int .u8 kd, .string p] 39)) = w9 at *
        generalize w8.heap.size = G at *
        have d0 : w9.cell? ⟨b, 0, none⟩ = some (.int .u8 v) := (Blk.cell hB9 0).trans rfl
        have d1 : w9.cell? ⟨b, 1, none⟩ = some (.int .u8 kd) := (Blk.cell hB9 1).trans rfl
        have d2 : w9.cell? ⟨b, 2, none⟩ = some (.string p) := (Blk.cell hB9 2).trans rfl
        have e0 : w9.cell? ⟨A, 0, none⟩ = some (.int .u8 v) := (Blk.cell hA9 0).trans rfl
        have e1 : w9.cell? ⟨A, 1, none⟩ = some (.int .u8 kd) := (Blk.cell hA9 1).trans rfl
        have e2 : w9.cell? ⟨A, 2, none⟩ = some (.string p) := (Blk.cell hA9 2).trans rfl
        have i0 : w9.cell? ⟨G, 0, none⟩ = some (.int .u8 v) := (Blk.cell hG9 0).trans rfl
        have i1 : w9.cell? ⟨G, 1, none⟩ = some (.int .u8 kd) := (Blk.cell hG9 1).trans rfl
        have i2 : w9.cell? ⟨G, 2, none⟩ = some (.string p) := (Blk.cell hG9 2).trans rfl
        clear hB8 hA8 hb8
        go_wp2_with fail
        refine (frame_Room (p.size : Int) _).mono ?_
        rw [HR.out]
        rintro y w' ⟨rfl, rfl⟩
        go_wp2
        go_ret
        exact ⟨rfl, hb9⟩
      · have heb : (e == 0) = false := by simpa using he
        clear he
        go_wp2
        go_ret
        exact ⟨rfl, hb5⟩
end Go.Proofs.Ytkicaiecmipieaa
