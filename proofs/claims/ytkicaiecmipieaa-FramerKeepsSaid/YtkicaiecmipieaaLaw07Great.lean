/- FrameGreat's walk. -/
import Derived.Deep.RegionWith
import Derived.Deep.DrawnRows
import Derived.Deep.DeepCutAuto
import Derived.Test.YtkicaiecmipieaaLaw07A
import Derived.Test.YtkicaiecmipieaaFill
import Derived.Test.YtkicaiecmipieaaRef03b
namespace Go.Proofs.Ytkicaiecmipieaa
open Go.RowKit Go.Lib

theorem great_enc (b : Int) (L : Nat) (hb0 : 0 ≤ b) (hb1 : b < 256) :
    ((65536 < L) → frameEnc 1 b (fillB L b) = (⟨#[]⟩, 3)) ∧
    (¬ 65536 < L → ∀ t e, frameEnc 1 b (fillB L b) = (t, e) → e = 0 ∧ frD t = ((1, b, fillB L b), t.size, 0) ∧ roomR (L : Int) = (t.size : Int) ∧ t.size ≤ 65547) := by
  have hz := fillB_size L b
  constructor
  · intro h
    unfold frameEnc
    rw [if_neg (by decide), if_pos (by omega)]
  · intro h t e ht
    have hz2 := frameEnc_size 1 b (fillB L b)
    have hl := frameEnc_le 1 b (fillB L b)
    have hf := frT_enc 1 b (fillB L b) ⟨#[]⟩ (.inl rfl) hb0 hb1 (by omega)
    have he : (frameEnc 1 b (fillB L b)).2 = 0 := by unfold frameEnc; rw [if_neg (by decide), if_neg (by omega)]
    rw [ht] at hz2 hl hf he
    dsimp only at hz2 hl hf he
    have hz2 := hz2 he
    rw [show t ++ (⟨#[]⟩ : ByteArray) = t from ByteArray.ext (by simp)] at hf
    refine ⟨he, ?_, ?_, hl⟩
    · unfold frD
      rw [hf]
      exact if_pos rfl
    · unfold roomR
      rw [if_neg (by omega), Int.toNat_natCast]
      rw [hz] at hz2
      omega

def FillRel (W : World) (g L : Nat) (b : Int) (i : Value) (w : World) : Prop :=
  ∃ k : Nat, k ≤ L ∧ i = .int .i64 (k : Int) ∧ Blk w g 5 (fillA L k b) ∧ Below W.heap.size W w

set_option maxHeartbeats 20000000 in
set_option maxRecDepth 100000 in
theorem law07_great (b less many : Int) (w : World) (hb0 : 0 ≤ b) (hb1 : b < 256) (hl0 : 0 ≤ less) (hl1 : less < 256) (hm0 : -9223372036854775808 ≤ many) (hm1 : many ≤ 9223372036854775807) :
    Calls Try.prog 8 #[.int .u8 b, .int .u8 less, .int .i64 many] w fun e w' => e = .returned (.bool true) ∧ Below w.heap.size w w' := by
  obtain ⟨L, hL⟩ : ∃ L : Nat, 65596 - less % 120 = (L : Int) := ⟨(65596 - less % 120).toNat, by omega⟩
  have hLr : 65476 < L ∧ L ≤ 65596 := by omega
  obtain ⟨t, e, hE⟩ : ∃ t e, frameEnc 1 b (fillB L b) = (t, e) := ⟨_, _, rfl⟩
  obtain ⟨hg1, hg2⟩ := great_enc b L hb0 hb1
  have hbig : 65536 < L → t = ⟨#[]⟩ ∧ e = 3 := fun h => by have := hg1 h; rw [hE] at this; injection this with h1 h2; exact ⟨h1, h2⟩
  have hgood := fun h => hg2 h t e hE
  have hmk := run_make_row' (P := Try.prog) 37 5 (.int .u8 0) 1 Try.underlying37 (by kernel_rfl) rfl .i64 .i64 L (by omega) (by omega)
  have HE := Lib.hid hE
  have HBIG := Lib.hid hbig
  have HGOOD := Lib.hid hgood
  obtain ⟨hLr0, hLr1⟩ := hLr
  have hLi0 : (65476 : Int) < (L : Int) := by omega
  have hLi1 : (L : Int) ≤ 65596 := by omega
  clear hE hbig hgood hg1 hg2
  go_enter Try.func8, Try.ntmps8
  go_wp2_with fail
  refine (law07_awake w).mono ?_
  rintro y w0 ⟨rfl, hb00⟩
  go_upto_region 4 with fail
  have hB0 : Blk (w0.alloc (.cells (madeCells #[.int .u8 0] L) 5)) w0.heap.size 5 (fillA L 0 b) := by rw [fillA_zero L b]; exact Blk.new _ _ _
  have hb1 := hb00.alloc hb00.size (.cells (madeCells #[.int .u8 0] L) 5)
  have hgw : w.heap.size ≤ w0.heap.size := hb00.size
  generalize (w0.alloc (.cells (madeCells #[.int .u8 0] L) 5)) = w1 at *
  generalize w0.heap.size = g at *
  have HL := Lib.hid hL
  clear hb00 hmk hL
  go_wp2_with fail
  go_loopw [8] (FillRel w g L b) (fun i _ => L - (RowKit.intOf i).toNat)
  case atStart => exact ⟨0, Nat.zero_le _, rfl, hB0, hb1⟩
  case round =>
    obtain ⟨k, hk, rfl, hB, hbw⟩ := hrel
    by_cases hlt : k < L
    · have c0 : wr.cell? ⟨g, k, none⟩ = some (.int .u8 0) := (hB.cell k).trans ((fillA_get L k b k hlt).trans (by rw [if_neg (Nat.lt_irrefl k)]))
      have f0 := Blk.frozen hB k
      have hki : (k : Int) < (L : Int) := by omega
      have hk0 : (0 : Int) ≤ (k : Int) := by omega
      have hS : Blk (wr.setCell ⟨g, k, none⟩ (.int .u8 b)) g 5 (fillA L (k + 1) b) := fillA_set L k b ▸ Blk.set hB k _
      have hbS := below_self hbw (Nat.le_refl _) (Ext.self wr g k (.int .u8 b)) hgw
      go_wp2
      go_roundw
      case rel => exact ⟨k + 1, by omega, by first | rfl | go_num, hS, hbS⟩
      case measure => simp [RowKit.intOf]; omega
    · obtain rfl : k = L := by omega
      clear hlt hB0 hb1
      have hcv := fill_conv (P := Try.prog) hB 37 9 5 Try.underlying37 Try.underlying5 Try.underlying9 k
      have hfz := fillB_size k b
      go_upto_region 9 with fail
      have hA1 : Blk (wr.alloc (.cells #[.int .u8 1, .int .u8 b, .string (fillB k b)] 39)) wr.heap.size 39 #[.int .u8 1, .int .u8 b, .string (fillB k b)] := Blk.new _ _ _
      have hbA := hbw.alloc hbw.size (.cells #[.int .u8 1, .int .u8 b, .string (fillB k b)] 39)
      generalize (wr.alloc (.cells #[.int .u8 1, .int .u8 b, .string (fillB k b)] 39)) = w2 at *
      obtain ⟨A, hA⟩ : ∃ A, wr.heap.size = A := ⟨_, rfl⟩
      rw [hA] at hA1 ⊢
      have d0 : w2.cell? ⟨A, 0, none⟩ = some (.int .u8 1) := (Blk.cell hA1 0).trans rfl
      have d1 : w2.cell? ⟨A, 1, none⟩ = some (.int .u8 b) := (Blk.cell hA1 1).trans rfl
      have d2 : w2.cell? ⟨A, 2, none⟩ = some (.string (fillB k b)) := (Blk.cell hA1 2).trans rfl
      have HFZ := Lib.hid hfz
      clear hfz hcv hA hB hbw
      go_cut [10, 11] (fun s10 s11 wx => s10 = .string t ∧ s11 = .int .i64 e ∧ Blk wx A 39 #[.int .u8 1, .int .u8 b, .string (fillB k b)] ∧ Below w.heap.size w wx)
      case first =>
        go_region_with (first
          | (go_at_call 27; refine frame_New _ ?_; intro k1 z1 w3 hcd3 hk1 hz1 hb3
             have hb3 : Below w2.heap.size w2 w3 := ⟨hb3.os, hb3.tape, hb3.output, hb3.size, hb3.block⟩
             have hz1 : w2.heap.size ≤ z1 := hz1
             have hA3 := Blk.below hA1 hb3 (Blk.lt hA1)
             have hz1A : z1 ≠ A := Nat.ne_of_gt (Nat.lt_of_lt_of_le (Blk.lt hA1) hz1)
             have hz1 := Nat.le_trans hbA.size hz1
             have hb3 := Below.trans hbA (Below.mono hb3 hbA.size)
             have d0 : w3.cell? ⟨A, 0, none⟩ = some (.int .u8 1) := (Blk.cell hA3 0).trans rfl
             have d1 : w3.cell? ⟨A, 1, none⟩ = some (.int .u8 b) := (Blk.cell hA3 1).trans rfl
             have d2 : w3.cell? ⟨A, 2, none⟩ = some (.string (fillB k b)) := (Blk.cell hA3 2).trans rfl)
          | (go_at_call 28; refine frame_Encode _ _ 1 b (fillB k b) _ (by exact hcd3) (by rw [HFZ.out]; omega) (by decide) (by decide) (by omega) (by omega) ?_; rw [HE.out]; dsimp only; intro w4 hcd4 hx4
             have hA4 := Blk.ext (by exact hA3) hx4 (fun h => hz1A (Option.some.inj h))
             have hb4 := below_ext (by exact hb3) (Nat.le_refl _) hx4 (fun b h => (Option.some.inj h) ▸ hz1)))
        all_goals (
          go_wp2_with fail
          go_meet
          exact ⟨rfl, rfl, hA4, hb4⟩)
      case rest =>
        obtain ⟨rfl, rfl, hA7, hb7⟩ := hcut
        clear hA1 hbA d0 d1 d2
        by_cases h0 : many < 0
        · have HRM := Lib.hid (show roomR many = 0 from if_pos (.inl h0))
          go_wp2_with fail
          refine (frame_Room many _).mono ?_
          rw [HRM.out]
          rintro y w' ⟨rfl, rfl⟩
          go_wp2_with fail
          refine (frame_Sends _).mono ?_
          rintro y w' ⟨rfl, rfl⟩
          by_cases hbig : (65536 : Int) < (k : Int)
          · obtain ⟨rfl, rfl⟩ := HBIG.out (by omega)
            go_wp2
            go_ret
            exact ⟨rfl, hb7⟩
          · obtain ⟨rfl, hD, hRm, htz⟩ := HGOOD.out (by omega)
            have HD := Lib.hid hD
            have HRm := Lib.hid hRm
            clear hD hRm
            go_wp2_with fail
            refine frame_New _ ?_
            intro k2 z2 w8 hcd8 hk2 hz2 hb8
            have hA8 := hA7.below hb8 (Blk.lt hA7)
            have hz2A : z2 ≠ A := by have := Blk.lt hA7; omega
            have hz2 := Nat.le_trans hb7.size hz2
            have hb8 := hb7.trans (hb8.mono hb7.size)
            go_wp2_with fail
            refine frame_Decode _ _ t _ hcd8 (by omega) ?_
            rw [HD.out]; dsimp only
            intro w9 hcd9 hx9
            have hA9 := hA8.ext hx9 (fun h => hz2A (Option.some.inj h))
            have hb9 := below_ext hb8 (Nat.le_refl _) hx9 (fun b h => (Option.some.inj h) ▸ hz2)
            clear hcd8 hA8 hb8 hx9 hcd9
            go_upto_region 18 with fail
            have hA10 := hA9.alloc (.cells #[.int .u8 1, .int .u8 b, .string (fillB k b)] 39)
            have hG10 : Blk (w9.alloc (.cells #[.int .u8 1, .int .u8 b, .string (fillB k b)] 39)) w9.heap.size 39 #[.int .u8 1, .int .u8 b, .string (fillB k b)] := Blk.new _ _ _
            have hb10 := hb9.alloc hb9.size (.cells #[.int .u8 1, .int .u8 b, .string (fillB k b)] 39)
            generalize (w9.alloc (.cells #[.int .u8 1, .int .u8 b, .string (fillB k b)] 39)) = w10 at *
            generalize w9.heap.size = G at *
            have d0 : w10.cell? ⟨A, 0, none⟩ = some (.int .u8 1) := (Blk.cell hA10 0).trans rfl
            have d1 : w10.cell? ⟨A, 1, none⟩ = some (.int .u8 b) := (Blk.cell hA10 1).trans rfl
            have d2 : w10.cell? ⟨A, 2, none⟩ = some (.string (fillB k b)) := (Blk.cell hA10 2).trans rfl
            have e0 : w10.cell? ⟨G, 0, none⟩ = some (.int .u8 1) := (Blk.cell hG10 0).trans rfl
            have e1 : w10.cell? ⟨G, 1, none⟩ = some (.int .u8 b) := (Blk.cell hG10 1).trans rfl
            have e2 : w10.cell? ⟨G, 2, none⟩ = some (.string (fillB k b)) := (Blk.cell hG10 2).trans rfl
            go_wp2_with fail
            refine (frame_Room (k : Int) _).mono ?_
            rw [HRm.out]
            rintro y w' ⟨rfl, rfl⟩
            go_wp2
            go_ret
            exact ⟨rfl, hb10⟩
        · have h0 : (0 : Int) ≤ many := by omega
          by_cases h1 : 65536 < many
          · have HRM := Lib.hid (show roomR many = 0 from if_pos (.inr h1))
            go_wp2_with fail
            refine (frame_Room many _).mono ?_
            rw [HRM.out]
            rintro y w' ⟨rfl, rfl⟩
            go_wp2_with fail
            refine (frame_Sends _).mono ?_
            rintro y w' ⟨rfl, rfl⟩
            by_cases hbig : (65536 : Int) < (k : Int)
            · obtain ⟨rfl, rfl⟩ := HBIG.out (by omega)
              go_wp2
              go_ret
              exact ⟨rfl, hb7⟩
            · obtain ⟨rfl, hD, hRm, htz⟩ := HGOOD.out (by omega)
              have HD := Lib.hid hD
              have HRm := Lib.hid hRm
              clear hD hRm
              go_wp2_with fail
              refine frame_New _ ?_
              intro k2 z2 w8 hcd8 hk2 hz2 hb8
              have hA8 := hA7.below hb8 (Blk.lt hA7)
              have hz2A : z2 ≠ A := by have := Blk.lt hA7; omega
              have hz2 := Nat.le_trans hb7.size hz2
              have hb8 := hb7.trans (hb8.mono hb7.size)
              go_wp2_with fail
              refine frame_Decode _ _ t _ hcd8 (by omega) ?_
              rw [HD.out]; dsimp only
              intro w9 hcd9 hx9
              have hA9 := hA8.ext hx9 (fun h => hz2A (Option.some.inj h))
              have hb9 := below_ext hb8 (Nat.le_refl _) hx9 (fun b h => (Option.some.inj h) ▸ hz2)
              clear hcd8 hA8 hb8 hx9 hcd9
              go_upto_region 18 with fail
              have hA10 := hA9.alloc (.cells #[.int .u8 1, .int .u8 b, .string (fillB k b)] 39)
              have hG10 : Blk (w9.alloc (.cells #[.int .u8 1, .int .u8 b, .string (fillB k b)] 39)) w9.heap.size 39 #[.int .u8 1, .int .u8 b, .string (fillB k b)] := Blk.new _ _ _
              have hb10 := hb9.alloc hb9.size (.cells #[.int .u8 1, .int .u8 b, .string (fillB k b)] 39)
              generalize (w9.alloc (.cells #[.int .u8 1, .int .u8 b, .string (fillB k b)] 39)) = w10 at *
              generalize w9.heap.size = G at *
              have d0 : w10.cell? ⟨A, 0, none⟩ = some (.int .u8 1) := (Blk.cell hA10 0).trans rfl
              have d1 : w10.cell? ⟨A, 1, none⟩ = some (.int .u8 b) := (Blk.cell hA10 1).trans rfl
              have d2 : w10.cell? ⟨A, 2, none⟩ = some (.string (fillB k b)) := (Blk.cell hA10 2).trans rfl
              have e0 : w10.cell? ⟨G, 0, none⟩ = some (.int .u8 1) := (Blk.cell hG10 0).trans rfl
              have e1 : w10.cell? ⟨G, 1, none⟩ = some (.int .u8 b) := (Blk.cell hG10 1).trans rfl
              have e2 : w10.cell? ⟨G, 2, none⟩ = some (.string (fillB k b)) := (Blk.cell hG10 2).trans rfl
              go_wp2_with fail
              refine (frame_Room (k : Int) _).mono ?_
              rw [HRm.out]
              rintro y w' ⟨rfl, rfl⟩
              go_wp2
              go_ret
              exact ⟨rfl, hb10⟩
          · obtain ⟨M, rfl⟩ := Int.eq_ofNat_of_zero_le (show 0 ≤ many by omega)
            have hrm : roomR (M : Int) = 2 + 2 + ((encR (M : Int).toNat).size : Int) + (M : Int) + 4 := if_neg (by omega)
            rw [Int.toNat_natCast] at hrm
            have hz9 := encR_size M
            obtain ⟨zm, hzm⟩ : ∃ zm, (encR M).size = zm := ⟨_, rfl⟩
            rw [hzm] at hrm hz9
            have hrm : roomR (M : Int) = 8 + (zm : Int) + (M : Int) := by omega
            have HRM := Lib.hid hrm
            have HZM := Lib.hid hzm
            have hz10 : (zm : Int) ≤ 10 := by omega
            have hM0 : (0 : Int) ≤ (M : Int) := by omega
            have hM1 : (M : Int) ≤ 65536 := by omega
            have hMw : IntKind.u64.wrap (M : Int) = (M : Int) := by rw [IntKind.wrap_u64]; omega
            have h80 : IntKind.i64.wrap (8 + (zm : Int)) = 8 + (zm : Int) := by rw [IntKind.wrap_i64]; omega
            have h81 : IntKind.i64.wrap (8 + (zm : Int) + (M : Int)) = 8 + (zm : Int) + (M : Int) := by rw [IntKind.wrap_i64]; omega
            clear hrm hzm h0 h1
            go_wp2_with fail
            refine (ref03_Encode M _ (by omega)).mono ?_
            rintro y w8 ⟨rfl, hb8⟩
            have hA7 := hA7.below hb8 (Blk.lt hA7)
            have hb7 := hb7.trans (hb8.mono hb7.size)
            have hzz := HZM.out
            generalize encR M = em at *
            go_wp2_with fail
            refine (frame_Room (M : Int) _).mono ?_
            rw [HRM.out]
            rintro y w' ⟨rfl, rfl⟩
            go_wp2_with fail
            refine (frame_Sends _).mono ?_
            rintro y w' ⟨rfl, rfl⟩
            by_cases hbig : (65536 : Int) < (k : Int)
            · obtain ⟨rfl, rfl⟩ := HBIG.out (by omega)
              go_wp2
              go_ret
              exact ⟨rfl, hb7⟩
            · obtain ⟨rfl, hD, hRm, htz⟩ := HGOOD.out (by omega)
              have HD := Lib.hid hD
              have HRm := Lib.hid hRm
              clear hD hRm
              go_wp2_with fail
              refine frame_New _ ?_
              intro k2 z2 w8 hcd8 hk2 hz2 hb8
              have hA8 := hA7.below hb8 (Blk.lt hA7)
              have hz2A : z2 ≠ A := by have := Blk.lt hA7; omega
              have hz2 := Nat.le_trans hb7.size hz2
              have hb8 := hb7.trans (hb8.mono hb7.size)
              go_wp2_with fail
              refine frame_Decode _ _ t _ hcd8 (by omega) ?_
              rw [HD.out]; dsimp only
              intro w9 hcd9 hx9
              have hA9 := hA8.ext hx9 (fun h => hz2A (Option.some.inj h))
              have hb9 := below_ext hb8 (Nat.le_refl _) hx9 (fun b h => (Option.some.inj h) ▸ hz2)
              clear hcd8 hA8 hb8 hx9 hcd9
              go_upto_region 18 with fail
              have hA10 := hA9.alloc (.cells #[.int .u8 1, .int .u8 b, .string (fillB k b)] 39)
              have hG10 : Blk (w9.alloc (.cells #[.int .u8 1, .int .u8 b, .string (fillB k b)] 39)) w9.heap.size 39 #[.int .u8 1, .int .u8 b, .string (fillB k b)] := Blk.new _ _ _
              have hb10 := hb9.alloc hb9.size (.cells #[.int .u8 1, .int .u8 b, .string (fillB k b)] 39)
              generalize (w9.alloc (.cells #[.int .u8 1, .int .u8 b, .string (fillB k b)] 39)) = w10 at *
              generalize w9.heap.size = G at *
              have d0 : w10.cell? ⟨A, 0, none⟩ = some (.int .u8 1) := (Blk.cell hA10 0).trans rfl
              have d1 : w10.cell? ⟨A, 1, none⟩ = some (.int .u8 b) := (Blk.cell hA10 1).trans rfl
              have d2 : w10.cell? ⟨A, 2, none⟩ = some (.string (fillB k b)) := (Blk.cell hA10 2).trans rfl
              have e0 : w10.cell? ⟨G, 0, none⟩ = some (.int .u8 1) := (Blk.cell hG10 0).trans rfl
              have e1 : w10.cell? ⟨G, 1, none⟩ = some (.int .u8 b) := (Blk.cell hG10 1).trans rfl
              have e2 : w10.cell? ⟨G, 2, none⟩ = some (.string (fillB k b)) := (Blk.cell hG10 2).trans rfl
              go_wp2_with fail
              refine (frame_Room (k : Int) _).mono ?_
              rw [HRm.out]
              rintro y w' ⟨rfl, rfl⟩
              go_wp2
              go_ret
              exact ⟨rfl, hb10⟩
end Go.Proofs.Ytkicaiecmipieaa
