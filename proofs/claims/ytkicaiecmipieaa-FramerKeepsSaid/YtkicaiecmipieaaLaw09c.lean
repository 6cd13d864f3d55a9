/- FramerKeeps' walk. -/
import Derived.Test.YtkicaiecmipieaaLaw09
import Derived.Test.YtkicaiecmipieaaLaw07Great
namespace Go.Proofs.Ytkicaiecmipieaa
open Go.RowKit Go.Lib
attribute [local go_sem high] run_min_i

theorem keeps_enc (b : Int) (L : Nat) (hb0 : 0 ≤ b) (hb1 : b < 256) (hL : L ≤ 65536) : ∃ t, frameEnc 2 b (fillB L b) = (t, 0) ∧ frD t = ((2, b, fillB L b), t.size, 0) ∧ t.size ≤ 65547 ∧ 8 ≤ t.size := by
  have hz := fillB_size L b
  have he : (frameEnc 2 b (fillB L b)).2 = 0 := by unfold frameEnc; rw [if_neg (by decide), if_neg (by omega)]
  have hz2 := frameEnc_size 2 b (fillB L b) he
  obtain ⟨t, e, hE⟩ : ∃ t e, frameEnc 2 b (fillB L b) = (t, e) := ⟨_, _, rfl⟩
  rw [hE] at he hz2
  dsimp only at he hz2
  subst he
  obtain ⟨h1, _, h3⟩ := frD_enc 2 b (fillB L b) ⟨#[]⟩ t hE hb0 hb1
  rw [ba_nil] at h1
  exact ⟨t, hE, h1, h3, by omega⟩

def KeepRel (W : World) (B g k z F : Nat) (t : ByteArray) (f : Array Value) (i : Value) (w : World) : Prop :=
  ∃ a : Nat, i = .int .i64 (a : Int) ∧ a ≤ 1000000 ∧ ((a < t.size ∧ Fmr w B g k z (t.extract 0 a) 0 0) ∨ (t.size ≤ a ∧ Fmr w B g k z ⟨#[]⟩ 0 1)) ∧ Blk w F 39 f ∧ Below W.heap.size W w ∧ B ≤ w.heap.size

set_option maxHeartbeats 8000000 in
set_option maxRecDepth 100000 in
theorem law09_keeps (b less step : Int) (w : World) (hb0 : 0 ≤ b) (hb1 : b < 256) (hl0 : 0 ≤ less) (hl1 : less < 256) (hs0 : 0 ≤ step) (hs1 : step < 65536) :
    Calls Try.prog 4 #[.int .u8 b, .int .u8 less, .int .u16 step] w fun e w' => e = .returned (.bool true) ∧ Below w.heap.size w w' := by
  obtain ⟨L, hL⟩ : ∃ L : Nat, 65536 - less = (L : Int) := ⟨(65536 - less).toNat, by omega⟩
  have hLr : L ≤ 65536 := by omega
  obtain ⟨t, hE, hD, htz, ht8⟩ := keeps_enc b L hb0 hb1 hLr
  obtain ⟨n, hn⟩ : ∃ n : Nat, 9000 + step % 20000 = (n : Int) := ⟨(9000 + step % 20000).toNat, by omega⟩
  have hn9 : 9000 ≤ n ∧ n ≤ 29000 := by omega
  have hmk := run_make_row' (P := Try.prog) 37 5 (.int .u8 0) 1 Try.underlying37 (by kernel_rfl) rfl .i64 .i64 L (by omega) (by omega)
  have HE := Lib.hid hE
  have HD := Lib.hid hD
  have HN := Lib.hid hn
  obtain ⟨hn1, hn2⟩ := hn9
  have hLi0 : (0 : Int) ≤ (L : Int) := by omega
  have hLi1 : (L : Int) ≤ 65536 := by omega
  clear hE hD hn
  go_enter Try.func4, Try.ntmps4
  go_wp2_with fail
  refine law09_awake w ?_
  intro w0 hb00
  go_upto_region 4 with fail
  have hB0 : Blk (w0.alloc (.cells (madeCells #[.int .u8 0] L) 5)) w0.heap.size 5 (fillA L 0 b) := by rw [fillA_zero L b]; exact Blk.new _ _ _
  have hb1' := hb00.alloc hb00.size (.cells (madeCells #[.int .u8 0] L) 5)
  have hgw : w.heap.size ≤ w0.heap.size := hb00.size
  generalize (w0.alloc (.cells (madeCells #[.int .u8 0] L) 5)) = w1 at *
  generalize w0.heap.size = gg at *
  have HL := Lib.hid hL
  clear hb00 hmk hL
  go_wp2_with fail
  go_loopw [8] (FillRel w gg L b) (fun i _ => L - (RowKit.intOf i).toNat)
  case atStart => exact ⟨0, Nat.zero_le _, rfl, hB0, hb1'⟩
  case round =>
    obtain ⟨q, hq, rfl, hB, hbw⟩ := hrel
    by_cases hlt : q < L
    · have c0 : wr.cell? ⟨gg, q, none⟩ = some (.int .u8 0) := (hB.cell q).trans ((fillA_get L q b q hlt).trans (by rw [if_neg (Nat.lt_irrefl q)]))
      have f0 := Blk.frozen hB q
      have hki : (q : Int) < (L : Int) := by omega
      have hk0 : (0 : Int) ≤ (q : Int) := by omega
      have hS : Blk (wr.setCell ⟨gg, q, none⟩ (.int .u8 b)) gg 5 (fillA L (q + 1) b) := fillA_set L q b ▸ Blk.set hB q _
      have hbS := below_self hbw (Nat.le_refl _) (Ext.self wr gg q (.int .u8 b)) hgw
      go_wp2
      go_roundw
      case rel => exact ⟨q + 1, by omega, by first | rfl | go_num, hS, hbS⟩
      case measure => simp [RowKit.intOf]; omega
    · obtain rfl : q = L := by omega
      clear hlt hB0 hb1'
      have hcv := fill_conv (P := Try.prog) hB 37 9 5 Try.underlying37 Try.underlying5 Try.underlying9 q
      have hfz := fillB_size q b
      go_upto_region 9 with fail
      have hA1 : Blk (wr.alloc (.cells #[.int .u8 2, .int .u8 b, .string (fillB q b)] 39)) wr.heap.size 39 #[.int .u8 2, .int .u8 b, .string (fillB q b)] := Blk.new _ _ _
      have hbA := hbw.alloc hbw.size (.cells #[.int .u8 2, .int .u8 b, .string (fillB q b)] 39)
      generalize (wr.alloc (.cells #[.int .u8 2, .int .u8 b, .string (fillB q b)] 39)) = w2 at *
      obtain ⟨F, hF⟩ : ∃ F, wr.heap.size = F := ⟨_, rfl⟩
      rw [hF] at hA1 ⊢
      have d0 : w2.cell? ⟨F, 0, none⟩ = some (.int .u8 2) := (Blk.cell hA1 0).trans rfl
      have d1 : w2.cell? ⟨F, 1, none⟩ = some (.int .u8 b) := (Blk.cell hA1 1).trans rfl
      have d2 : w2.cell? ⟨F, 2, none⟩ = some (.string (fillB q b)) := (Blk.cell hA1 2).trans rfl
      have hps : (fillB q b).size ≤ 140737488351232 := by omega
      generalize fillB q b = p at *
      clear hfz hcv hF hB hbw
      go_wp2_with fail
      refine ref07_Encode 2 b p _ hps ?_
      rw [HE.out]; dsimp only
      intro w3 hb3
      have hA3 := hA1.below hb3 (Blk.lt hA1)
      have hbel3 := hbA.trans (hb3.mono hbA.size)
      clear hA1 hbA hb3 d0 d1 d2
      go_wp2_with fail
      refine framer_New _ ?_
      intro g k z w4 hf4 hb4
      have hA4 := hA3.below hb4 (Blk.lt hA3)
      have hwB := hbel3.size
      have hB4 := hb4.size
      have hbel4 := hbel3.trans (hb4.mono hbel3.size)
      clear hA3 hbel3 hb4
      generalize w3.heap.size = B at *
      go_wp2_with fail
      rw [HN.out]
      have hn0 : (0 : Int) ≤ (n : Int) := Int.natCast_nonneg _
      have hn3 : (n : Int) ≤ 29000 := by omega
      have hn4 : (9000 : Int) ≤ (n : Int) := by omega
      have ht1 : (t.size : Int) ≤ 65547 := by omega
      go_loopw [14] (KeepRel w B g k z F t #[.int .u8 2, .int .u8 b, .string p]) (fun i _ => t.size - (RowKit.intOf i).toNat)
      case atStart => exact ⟨0, rfl, by decide, .inl ⟨by omega, by rw [ext_none]; exact hf4⟩, hA4, hbel4, hB4⟩
      case round =>
        obtain ⟨a, rfl, ha6, hf, hA, hbel, hB⟩ := hrel
        clear hf4 hA4 hbel4 hB4
        have ha0 : (0 : Int) ≤ (a : Int) := Int.natCast_nonneg _
        rcases hf with ⟨hlt, hf⟩ | ⟨hge, hf⟩
        · have hlt1 : (a : Int) < (t.size : Int) := by omega
          have hlt2 : decide ((a : Int) < (t.size : Int)) = true := by simpa using hlt1
          by_cases hm : a + n < t.size
          · have hm1 : (a : Int) + (n : Int) < (t.size : Int) := by omega
            have hm2 : ¬ ((t.size : Int) ≤ (a : Int) + (n : Int)) := by omega
            have hle3 : a ≤ a + n := by omega
            have hle4 : a + n ≤ t.size := by omega
            have hcut := fs_enc_cut HD.out (a + n) hm
            have hxx : t.extract 0 a ++ t.extract a (a + n) = t.extract 0 (a + n) := ext_join t 0 a (a + n) (by omega) (by omega)
            have hsz : (t.extract 0 a).size + (t.extract a (a + n)).size ≤ 1000000 := by rw [ByteArray.size_extract, ByteArray.size_extract]; omega
            have hfs : Fs (t.extract 0 a ++ t.extract a (a + n)) [] (a + n) 0 := by rw [hxx]; exact hcut
            have hkz : (t.extract 0 (a + n)).size = a + n := by rw [ByteArray.size_extract]; omega
            have htl : tailB (t.extract 0 a ++ t.extract a (a + n)) (a + n) = t.extract 0 (a + n) := by
              rw [hxx]
              have h := tailB_all (t.extract 0 (a + n))
              rwa [hkz] at h
            have hmin : min (t.size : Int) ((a : Int) + (n : Int)) = (a : Int) + (n : Int) := by omega
            have HTL := Lib.hid htl
            have HFS := Lib.hid hfs
            have HKZ := Lib.hid hkz
            have hkc : ((a + n : Nat) : Int) = (a : Int) + (n : Int) := by omega
            have HKC := Lib.hid hkc
            have hxl : (a : Int) + (n : Int) < 65547 := by omega
            have hxd : decide ((65547 : Int) ≤ (a : Int) + (n : Int)) = false := by simp; omega
            clear hcut hxx hfs htl hkz hkc
            go_wp2_with fail
            refine framer_Push _ B g k z _ _ 0 hf [] (a + n) 0 HFS.out hsz (by decide) hB ?_
            rw [if_pos rfl, HTL.out]
            intro A3 c3 w5 _ hf5 hx5
            have hA5 := hA.framer hx5 (by decide) (by decide) (by decide)
            have hbel5 := below_ext hbel (Nat.le_refl _) hx5 (fun q hq => Nat.le_trans hwB hq.1)
            have hB5 := Nat.le_trans hB hx5.size
            clear hf hA hbel hB hx5
            go_wp2_with fail
            refine (framer_Kept _ _ _ _ _ _ _ _ hf5).mono ?_
            rw [HKZ.out, HKC.out]
            rintro y w6 ⟨rfl, rfl⟩
            go_wp2_with fail
            refine (framer_Kept _ _ _ _ _ _ _ _ hf5).mono ?_
            rw [HKZ.out, HKC.out]
            rintro y w6 ⟨rfl, rfl⟩
            have heq : ((a : Int) + (n : Int) == (t.size : Int)) = false := by simp; omega
            clear hmin
            go_wp2_with fail
            go_quiet (fail)
            go_wp2
            go_roundw
            case rel => exact ⟨a + n, by go_num, by omega, .inl ⟨hm, hf5⟩, hA5, below_drewN hbel5 _, hB5⟩
            case measure => simp [RowKit.intOf]; omega
          · have hm1 : (t.size : Int) ≤ (a : Int) + (n : Int) := by omega
            have hle3 : a ≤ t.size := by omega
            have hxx : t.extract 0 a ++ t.extract a t.size = t := by rw [ext_join t 0 a t.size (by omega) (by omega), ext_all]
            have hsz : (t.extract 0 a).size + (t.extract a t.size).size ≤ 1000000 := by rw [ByteArray.size_extract, ByteArray.size_extract]; omega
            have hfs : Fs (t.extract 0 a ++ t.extract a t.size) [(2, b, p)] 0 0 := by rw [hxx]; exact fs_enc_all HD.out (by omega)
            have htl : tailB (t.extract 0 a ++ t.extract a t.size) 0 = ⟨#[]⟩ := by rw [hxx]; unfold tailB; rw [Nat.sub_zero, ext_none]
            have hmin : min (t.size : Int) ((a : Int) + (n : Int)) = (t.size : Int) := by omega
            have hna : (a : Int) + (n : Int) ≤ 1000000 := by omega
            have HTL := Lib.hid htl
            have HFS := Lib.hid hfs
            clear hxx hfs htl
            go_wp2_with fail
            refine framer_Push _ B g k z _ _ 0 hf [(2, b, p)] 0 0 HFS.out hsz (by decide) hB ?_
            rw [if_pos rfl, HTL.out]
            intro A3 c3 w5 hown5 hf5 hx5
            have hA5 := hA.framer hx5 (by decide) (by decide) (by decide)
            have hbel5 := below_ext hbel (Nat.le_refl _) hx5 (fun q hq => Nat.le_trans hwB hq.1)
            have hB5 := Nat.le_trans hB hx5.size
            clear hf hA hbel hB hx5
            obtain ⟨hb, ho, rfl, _, hc⟩ := (Row.of_own hown5).at_ frC_len (by decide) 0 (by simp)
            have c0 := hc 0 (.int .u8 2) rfl
            have c1 := hc 1 (.int .u8 b) rfl
            have c2 := hc 2 (.string p) rfl
            rw [show ho + (0 * 3 + 0) = ho from by omega] at c0
            rw [show ho + (0 * 3 + 1) = ho + 1 from by omega] at c1
            rw [show ho + (0 * 3 + 2) = ho + 2 from by omega] at c2
            have d0 : w5.cell? ⟨F, 0, none⟩ = some (.int .u8 2) := (Blk.cell hA5 0).trans rfl
            have d1 : w5.cell? ⟨F, 1, none⟩ = some (.int .u8 b) := (Blk.cell hA5 1).trans rfl
            have d2 : w5.cell? ⟨F, 2, none⟩ = some (.string p) := (Blk.cell hA5 2).trans rfl
            clear hc hown5 hmin
            go_wp2_with fail
            refine (framer_Kept _ _ _ _ _ _ _ _ hf5).mono ?_
            rintro y w6 ⟨rfl, rfl⟩
            go_wp2_with fail
            have hf5d : ∀ n, Fmr (w5.drewN n) B g k z ⟨#[]⟩ 0 1 := fun n => hf5
            go_quiet ((go_at_call 16; exact quiet_l (framer_Kept _ _ _ _ _ _ _ _ (hf5d _))))
            go_wp2
            go_roundw
            case rel => exact ⟨a + n, by go_num, by omega, .inr ⟨by omega, hf5⟩, hA5, below_drewN hbel5 _, hB5⟩
            case measure => simp [RowKit.intOf]; omega
        · have hlt1 : ¬ (a : Int) < (t.size : Int) := by omega
          go_wp2_with fail
          refine (framer_Err _ _ _ _ _ _ _ _ hf).mono ?_
          rintro y w6 ⟨rfl, rfl⟩
          go_wp2
          go_ret
          exact ⟨rfl, hbel⟩
end Go.Proofs.Ytkicaiecmipieaa
