/- SplitBegins' walk. -/
import Derived.Test.YtkicaiecmipieaaLaw08b
import Derived.Test.YtkicaiecmipieaaFrameCut
namespace Go.Proofs.Ytkicaiecmipieaa
open Go.RowKit Go.Lib

def BegRel (W : World) (n : Nat) (i : Value) (w : World) : Prop := ∃ j : Nat, i = .int .i64 (j : Int) ∧ j ≤ n + 1 ∧ Below W.heap.size W w

theorem begins_enc (t : ByteArray) (f : Fr) (h : frD t = (f, t.size, 0)) (j : Nat) (hj : j ≤ t.size) : ((frD (t.extract 0 j)).2.2 == 2) = decide (j < t.size) := by
  obtain ⟨v, kd, p⟩ := f
  by_cases hlt : j < t.size
  · rw [decide_eq_true hlt]
    have hz : (t.extract 0 j).size = j := by rw [ByteArray.size_extract]; omega
    have hsp : t.extract 0 j ++ t.extract j t.size = t := by rw [ext_join t 0 j t.size (Nat.zero_le _) hj, ext_all]
    rw [frD_cut (x := t.extract 0 j) (y := t.extract j t.size) (by rw [hsp]; exact h) (by rw [hz]; exact hlt)]
    rfl
  · obtain rfl : j = t.size := by omega
    rw [ext_all, h, decide_eq_false (by omega)]
    rfl

set_option maxHeartbeats 4000000 in
set_option maxRecDepth 100000 in
theorem law08_begins (v kd : Int) (p s more : ByteArray) (w : World) (hk0 : 0 ≤ kd) (hk1 : kd < 256) :
    Calls Try.prog 10 #[.agg #[.int .u8 v, .int .u8 kd, .string p], .string s, .string more] w fun e w' => e = .returned (.bool true) ∧ Below w.heap.size w w' := by
  obtain ⟨t, e, hE⟩ : ∃ t e, frameEnc v kd p = (t, e) := ⟨_, _, rfl⟩
  have htl := frameEnc_le v kd p
  rw [hE] at htl
  dsimp only at htl
  have htd : e = 0 → frD t = ((v, kd, p), t.size, 0) := fun h0 => by
    have := (frD_enc v kd p ⟨#[]⟩ t (by rw [hE, h0]) hk0 hk1).1
    rwa [ba_nil] at this
  have HTD := Lib.hid htd
  have HE := Lib.hid hE
  clear hE htd
  go_enter Try.func10, Try.ntmps10
  go_upto_region 1 with fail
  have hB0 : Blk (w.alloc (.cells #[.int .u8 v, .int .u8 kd, .string p] 39)) w.heap.size 39 #[.int .u8 v, .int .u8 kd, .string p] := Blk.new _ _ _
  have hb0 : Below w.heap.size w (w.alloc (.cells #[.int .u8 v, .int .u8 kd, .string p] 39)) := (Below.refl _ _).alloc (Nat.le_refl _) _
  have hBW : w.heap.size ≤ w.heap.size := Nat.le_refl _
  generalize (w.alloc (.cells #[.int .u8 v, .int .u8 kd, .string p] 39)) = w0 at *
  obtain ⟨b, hb⟩ : ∃ b, w.heap.size = b := ⟨_, rfl⟩
  rw [hb] at hB0 ⊢
  have HBE := Lib.hid hb
  clear hb hBW
  go_wp2_with fail
  refine law08_awake w0 ?_
  intro w1 hb1
  have hB1 := hB0.below hb1 (Blk.lt hB0)
  have hb1 : Below w.heap.size w w1 := hb0.trans (hb1.mono hb0.size)
  clear hB0 hb0
  have d0 : w1.cell? ⟨b, 0, none⟩ = some (.int .u8 v) := (Blk.cell hB1 0).trans rfl
  have d1 : w1.cell? ⟨b, 1, none⟩ = some (.int .u8 kd) := (Blk.cell hB1 1).trans rfl
  have d2 : w1.cell? ⟨b, 2, none⟩ = some (.string p) := (Blk.cell hB1 2).trans rfl
  by_cases hbig : (100 : Int) < (p.size : Int) ∨ (200 : Int) < (s.size : Int) ∨ (200 : Int) < (more.size : Int)
  · by_cases h1 : (100 : Int) < (p.size : Int)
    · go_wp2
      go_ret
      exact ⟨rfl, HBE.out ▸ hb1⟩
    · have g1 : decide ((100 : Int) < (p.size : Int)) = false := by simpa using h1
      by_cases h2 : (200 : Int) < (s.size : Int)
      · go_wp2
        go_ret
        exact ⟨rfl, HBE.out ▸ hb1⟩
      · have g2 : decide ((200 : Int) < (s.size : Int)) = false := by simpa using h2
        have h3 : (200 : Int) < (more.size : Int) := by omega
        clear hbig
        go_wp2
        go_ret
        exact ⟨rfl, HBE.out ▸ hb1⟩
  · have h1 : (p.size : Int) ≤ 100 := by omega
    have h2 : (s.size : Int) ≤ 200 := by omega
    have h3 : (more.size : Int) ≤ 200 := by omega
    have g1 : decide ((100 : Int) < (p.size : Int)) = false := by simpa using h1
    have g2 : decide ((200 : Int) < (s.size : Int)) = false := by simpa using h2
    have g3 : decide ((200 : Int) < (more.size : Int)) = false := by simpa using h3
    clear hbig
    go_wp2_with fail
    refine ref07_Encode v kd p _ (by omega) ?_
    rw [HE.out]; dsimp only
    intro w2 hb2
    have hbel2 := hb1.trans (hb2.mono hb1.size)
    rw [← HBE.out]
    clear d0 d1 d2 hB1 hb1 hb2
    go_wp2_with fail
    go_loopw [9] (BegRel w t.size) (fun i _ => t.size + 1 - (RowKit.intOf i).toNat)
    case atStart => exact ⟨0, rfl, Nat.zero_le _, hbel2⟩
    case round =>
      obtain ⟨j, rfl, hj, hbel⟩ := hrel
      clear hbel2
      have hj0 : (0 : Int) ≤ (j : Int) := Int.natCast_nonneg _
      by_cases he : e = 0
      · subst he
        by_cases hjt : j ≤ t.size
        · have hjt1 : (j : Int) ≤ (t.size : Int) := by omega
          have hjt2 : decide (j ≤ t.size) = true := by simpa using hjt
          have hbg := begins_enc t _ (HTD.out rfl) j hjt
          have hze : (t.extract 0 j).size ≤ 1000000 := by rw [ByteArray.size_extract]; omega
          have HBG := Lib.hid hbg
          clear hbg
          go_wp2_with fail
          refine split_Begins _ _ hze ?_
          rw [HBG.out]
          intro w3 hb3
          have hbel3 := hbel.trans (hb3.mono hbel.size)
          go_wp2
          go_roundw
          case rel => exact ⟨j + 1, by go_num, by omega, hbel3⟩
          case measure => simp [RowKit.intOf]; omega
        · have hjt1 : (t.size : Int) < (j : Int) := by omega
          have hjt2 : decide (j ≤ t.size) = false := by simpa using hjt
          clear hjt
          by_cases hs2 : (frD s).2.2 = 2
          · have hsb : ((frD s).2.2 == 2) = true := by rw [hs2]; rfl
            have HSB := Lib.hid hsb
            clear hsb hs2
            go_wp2_with fail
            refine split_Begins s _ (by omega) ?_
            rw [HSB.out]
            intro w3 hb3
            have hbel3 := (hbel).trans (hb3.mono (hbel).size)
            go_wp2
            go_ret
            exact ⟨rfl, hbel3⟩
          · have hsb : ((frD s).2.2 == 2) = false := by simpa using hs2
            obtain ⟨v', kd', p', n', e', hM⟩ : ∃ v kd p n e, frD (s ++ more) = ((v, kd, p), n, e) := ⟨_, _, _, _, _, rfl⟩
            have hle : e' = 0 → n' ≤ s.size := fun h0 => by
              subst h0
              rcases Nat.lt_or_ge s.size n' with hlt | hge
              · exact absurd (frD_cut hM hlt) hs2
              · exact hge
            have HSB := Lib.hid hsb
            have HM := Lib.hid hM
            have hz1 : s.size + more.size ≤ 9223372036854775807 := by omega
            have hz2 : ¬ 9223372036854775807 < s.size + more.size := by omega
            have hz3 : (s ++ more).size ≤ 140737488351232 := by rw [ByteArray.size_append]; omega
            clear hsb hs2 hM
            go_wp2_with fail
            refine split_Begins s _ (by omega) ?_
            rw [HSB.out]
            intro w3 hb3
            have hbel3 := (hbel).trans (hb3.mono (hbel).size)
            go_wp2_with fail
            refine ref07_Decode _ _ hz3 ?_
            rw [HM.out]; dsimp only
            intro w4 hb4
            have hbel4 := hbel3.trans (hb4.mono hbel3.size)
            have hbel5 := hbel4.alloc hbel4.size (.cells #[.int .u8 v', .int .u8 kd', .string p'] 39)
            by_cases he' : e' = 0
            · subst he'
              have hn1 : (n' : Int) ≤ (s.size : Int) := by have := hle rfl; omega
              have hn2 : decide ((n' : Int) ≤ (s.size : Int)) = true := by simpa using hn1
              clear hle
              go_wp2
              go_ret
              exact ⟨rfl, hbel5⟩
            · have heb : (e' != 0) = true := by simpa using he'
              clear hle he'
              go_wp2
              go_ret
              exact ⟨rfl, hbel5⟩
      · have heb : (e == 0) = false := by simpa using he
        clear he
        by_cases hs2 : (frD s).2.2 = 2
        · have hsb : ((frD s).2.2 == 2) = true := by rw [hs2]; rfl
          have HSB := Lib.hid hsb
          clear hsb hs2
          go_wp2_with fail
          refine split_Begins s _ (by omega) ?_
          rw [HSB.out]
          intro w3 hb3
          have hbel3 := (hbel).trans (hb3.mono (hbel).size)
          go_wp2
          go_ret
          exact ⟨rfl, hbel3⟩
        · have hsb : ((frD s).2.2 == 2) = false := by simpa using hs2
          obtain ⟨v', kd', p', n', e', hM⟩ : ∃ v kd p n e, frD (s ++ more) = ((v, kd, p), n, e) := ⟨_, _, _, _, _, rfl⟩
          have hle : e' = 0 → n' ≤ s.size := fun h0 => by
            subst h0
            rcases Nat.lt_or_ge s.size n' with hlt | hge
            · exact absurd (frD_cut hM hlt) hs2
            · exact hge
          have HSB := Lib.hid hsb
          have HM := Lib.hid hM
          have hz1 : s.size + more.size ≤ 9223372036854775807 := by omega
          have hz2 : ¬ 9223372036854775807 < s.size + more.size := by omega
          have hz3 : (s ++ more).size ≤ 140737488351232 := by rw [ByteArray.size_append]; omega
          clear hsb hs2 hM
          go_wp2_with fail
          refine split_Begins s _ (by omega) ?_
          rw [HSB.out]
          intro w3 hb3
          have hbel3 := (hbel).trans (hb3.mono (hbel).size)
          go_wp2_with fail
          refine ref07_Decode _ _ hz3 ?_
          rw [HM.out]; dsimp only
          intro w4 hb4
          have hbel4 := hbel3.trans (hb4.mono hbel3.size)
          have hbel5 := hbel4.alloc hbel4.size (.cells #[.int .u8 v', .int .u8 kd', .string p'] 39)
          by_cases he' : e' = 0
          · subst he'
            have hn1 : (n' : Int) ≤ (s.size : Int) := by have := hle rfl; omega
            have hn2 : decide ((n' : Int) ≤ (s.size : Int)) = true := by simpa using hn1
            clear hle
            go_wp2
            go_ret
            exact ⟨rfl, hbel5⟩
          · have heb : (e' != 0) = true := by simpa using he'
            clear hle he'
            go_wp2
            go_ret
            exact ⟨rfl, hbel5⟩
end Go.Proofs.Ytkicaiecmipieaa
