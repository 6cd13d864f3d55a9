/- Stage V from the world w2 with error e1 at a2. -/
/- Stage B with an error ahead. -/
/- The document's frames (spenceref07). -/
import Derived.Test.YtkicaiecmipieaaFrame
import Derived.Test.YtkicaiecmipieaaFrameMath
import Derived.Test.YtkicaiecmipieaaFixed2
import Derived.Test.YtkicaiecmipieaaCrc
namespace Go.Proofs.Ytkicaiecmipieaa
open Go.RowKit Go.Lib

set_option maxHeartbeats 4000000 in
set_option maxRecDepth 100000 in
theorem ref07_Take (g : Nat) (s : ByteArray) (a : Nat) (e : Int) (w : World) (h : RCur w g s a e)
    (ha : a ≤ s.size) (hs : s.size ≤ 140737488351232) {R : Ending → World → Prop}
    (hR : ∀ w', RCur w' g s (frT s a e).2.1 (frT s a e).2.2 → Ext (· = g) w w' → R (.returned (.agg #[.int .u8 (frT s a e).1.1, .int .u8 (frT s a e).1.2.1, .string (frT s a e).1.2.2])) w') :
    Calls Try.prog 34 #[.pointer (some ⟨g, 0, none⟩)] w R := by
  have HR := Lib.hid hR
  clear hR
  go_enter Try.func34, Try.ntmps34
  go_wp2_with fail
  have hc0 : RCur (w.alloc (.cells #[.int .u8 0, .int .u8 0, .string ⟨#[]⟩] 39)) g s a e := Blk.alloc h _
  have hR0 : Blk (w.alloc (.cells #[.int .u8 0, .int .u8 0, .string ⟨#[]⟩] 39)) w.heap.size 39 #[.int .u8 0, .int .u8 0, .string ⟨#[]⟩] := Blk.new _ _ _
  have hx0 : Ext (· = g) w (w.alloc (.cells #[.int .u8 0, .int .u8 0, .string ⟨#[]⟩] 39)) := (Ext.refl _ _).alloc _
  have hgr : g ≠ w.heap.size := Nat.ne_of_lt (Blk.lt h)
  have hgl : g < w.heap.size := Blk.lt h
  generalize (w.alloc (.cells #[.int .u8 0, .int .u8 0, .string ⟨#[]⟩] 39)) = w0 at *
  obtain ⟨r, hr⟩ : ∃ r, w.heap.size = r := ⟨_, rfl⟩
  rw [hr] at hR0 hgr hgl
  have HRE := Lib.hid hr
  rw [hr]
  clear hr h
  obtain ⟨x1, a1, e1, hq1⟩ : ∃ x1 a1 e1, byteR s a e = (x1, a1, e1) := ⟨_, _, _, rfl⟩
  have hat1 := byteR_at (s := s) (at_ := a) (err := e) ha
  have hm1 : mgS s a e 215 = (a1, if e1 = 0 ∧ x1 ≠ 215 then 9 else e1) := by unfold mgS; rw [hq1]
  rw [hq1] at hat1
  dsimp only at hat1
  have HQ1 := Lib.hid hq1
  clear hq1
  refine ref01_Byte g s a e _ hc0 ha hs ?_
  rw [HQ1.out]; dsimp only
  intro w1 hc1 hx1
  have hR1 := hR0.ext hx1 (fun e => hgr e.symm)
  have hx1 := hx0.trans hx1 (fun _ _ e => e)
  clear hR0 hx0 hc0
  obtain ⟨c0, c1, c2, f1, f2⟩ := hc1.cells
  by_cases he1 : e1 = 0
  · subst he1
    by_cases hb : x1 = 215
    · rw [if_neg (fun h => h.2 hb)] at hm1
      have hbb : (x1 == 215) = true := by simpa using hb
      clear hb
      have HM0 := Lib.hid hm1
      clear hm1
      have hm1 := HM0.out
      obtain ⟨x2, a2, e2, hq2⟩ : ∃ x2 a2 e2, byteR s a1 0 = (x2, a2, e2) := ⟨_, _, _, rfl⟩
      have hat2 := byteR_at (s := s) (at_ := a1) (err := 0) hat1
      have hf0 : f0S s a e = (a2, if e2 = 0 ∧ x2 ≠ 78 then 9 else e2) := by unfold f0S; rw [hm1]; unfold mgS; rw [hq2]
      rw [hq2] at hat2
      dsimp only at hat2
      have HQ := Lib.hid hq2
      clear hq2 hm1
      go_wp2_with fail
      refine ref01_Byte g s a1 0 _ hc1 hat1 hs ?_
      rw [HQ.out]; dsimp only
      intro w2 hc2 hx2
      have hR2 := hR1.ext hx2 (fun e => hgr e.symm)
      have hx2 := hx1.trans hx2 (fun _ _ e => e)
      clear c0 c1 c2 f1 f2 hR1 hx1 hc1 HQ
      obtain ⟨c0, c1, c2, f1, f2⟩ := hc2.cells
      by_cases he2 : e2 = 0
      · subst he2
        by_cases hb : x2 = 78
        · have HF0 := Lib.hid (hf0.trans (congrArg (fun z => (a2, z)) (if_neg (fun h => h.2 hb))))
          have hbb : (x2 == 78) = true := by simpa using hb
          clear hf0 hb
          obtain ⟨v, a3, e3r, hq⟩ : ∃ v a3 e3r, byteR s a2 0 = (v, a3, e3r) := ⟨_, _, _, rfl⟩
          have hat3 := byteR_at (s := s) (at_ := a2) (err := 0) hat2
          have hvr := byteR_range s a2 0
          have hm1 : f1S s a e = (v, a3, if e3r = 0 ∧ ¬ (v = 1 ∨ v = 2) then 10 else e3r) := by unfold f1S; rw [HF0.out]; unfold verS; rw [hq]
          rw [hq] at hat3 hvr
          dsimp only at hat3 hvr
          have hvw : IntKind.u8.wrap v = v := by rw [IntKind.wrap_u8]; omega
          have HQ := Lib.hid hq
          clear hq hvr
          obtain ⟨c0, c1, c2, f1, f2⟩ := hc2.cells
          go_wp2_with fail
          refine ref01_Byte g s a2 0 _ hc2 hat2 hs ?_
          rw [HQ.out]; dsimp only
          intro w3 hc3 hx3
          have hR3 := hR2.ext hx3 (fun e => hgr e.symm)
          have hx3 := hx2.trans hx3 (fun _ _ e => e)
          clear c0 c1 c2 f1 f2 hR2 hx2 hc2 HQ
          obtain ⟨c0, c1, c2, f1, f2⟩ := hc3.cells
          by_cases he3 : e3r = 0
          · subst he3
            by_cases hv1 : v = 1
            · have HM1 := Lib.hid (hm1.trans (congrArg (fun z => (v, a3, z)) (if_neg (fun h => h.2 (.inl hv1)))))
              clear hm1
              subst hv1
              obtain ⟨kd, a4, e4, hq4⟩ : ∃ kd a4 e4, byteR s a3 0 = (kd, a4, e4) := ⟨_, _, _, rfl⟩
              have hat4 := byteR_at (s := s) (at_ := a3) (err := 0) hat3
              have hkr := byteR_range s a3 0
              have m2 : f2S s a e = (kd, a4, e4) := by unfold f2S; rw [HM1.out]; exact hq4
              rw [hq4] at hat4 hkr
              dsimp only at hat4 hkr
              have hkw : IntKind.u8.wrap kd = kd := by rw [IntKind.wrap_u8]; omega
              obtain ⟨p, a5, e5, hq5⟩ : ∃ p a5 e5, blobR s a4 e4 65536 = (p, a5, e5) := ⟨_, _, _, rfl⟩
              have hat5 := blobR_at (s := s) (a := a4) (e := e4) 65536 hat4
              have m3 : f3S s a e = (p, a5, e5) := by unfold f3S; rw [m2]; exact hq5
              rw [hq5] at hat5
              dsimp only at hat5
              obtain ⟨n, a6, e6, hq6⟩ : ∃ n a6 e6, fixTakeR s a5 e5 4 = (n, a6, e6) := ⟨_, _, _, rfl⟩
              have m4 : f4S s a e = (n, a6, e6) := by unfold f4S; rw [m3]; exact hq6
              have hle := f03_le s a e
              rw [m3, HF0.out] at hle
              dsimp only at hle
              have hat6 := fixTakeR_at (s := s) (at_ := a5) (err := e5) 4 hat5
              rw [hq6] at hat6
              dsimp only at hat6
              have m5 : f5S s a e = if e6 = 0 ∧ n ≠ (crcSum (s.extract a2 a5) : Nat) then 12 else e6 := by unfold f5S; rw [m4, m3, HF0.out]
              have hxz : (s.extract a2 a5).size ≤ 9223372036854775806 := by rw [ByteArray.size_extract]; omega
              have hcl : crcSum (s.extract a2 a5) < 4294967296 := cpl_lt _
              have hwr : IntKind.u64.wrap ((crcSum (s.extract a2 a5) : Nat) : Int) = ((crcSum (s.extract a2 a5) : Nat) : Int) := by rw [IntKind.wrap_u64]; omega
              have HQ4 := Lib.hid hq4
              have HQ5 := Lib.hid hq5
              have HQ6 := Lib.hid hq6
              have HM2 := Lib.hid m2
              have HM3 := Lib.hid m3
              have HM4 := Lib.hid m4
              have HM5 := Lib.hid m5
              clear hq4 hq5 hq6 m2 m3 m4 m5
              go_wp2_with fail
              refine ref01_Byte g s a3 0 _ hc3 hat3 hs ?_
              rw [HQ4.out]; dsimp only
              intro w4 hc4 hx4
              have hR4 := hR3.ext hx4 (fun e => hgr e.symm)
              have hx4' := hx3.trans hx4 (fun _ _ e => e)
              clear hR3 hx3 hx4 hc3
              go_wp2_with fail
              refine ref06_Take g s a4 e4 65536 _ hc4 hat4 hs (by decide) ?_
              rw [HQ5.out]; dsimp only
              intro w5 hc5 hx5
              have hR5 := hR4.ext hx5 (fun e => hgr e.symm)
              have hx5' := hx4'.trans hx5 (fun _ _ e => e)
              clear hR4 hx4' hx5 hc4
              obtain ⟨c0, c1, c2, f1, f2⟩ := hc5.cells
              go_wp2_with fail
              refine ref04_Take 4 g s a5 e5 _ hc5 hat5 hs ?_
              rw [HQ6.out]; dsimp only
              intro w6 hc6 hx6
              have hR6 := hR5.ext hx6 (fun e => hgr e.symm)
              have hx6' := hx5'.trans hx6 (fun _ _ e => e)
              clear hR5 hx5' hx6 hc5 c0 c1 c2 f1 f2
              have hfr : frT s a e = (if f5S s a e ≠ 0 then (0, 0, ⟨#[]⟩) else (1, kd, p), a6, f5S s a e) := by unfold frT; rw [HM4.out, HM3.out, HM2.out, HM1.out]
              by_cases he6 : e6 = 0
              · subst he6
                have hle0 : (a2 : Int) ≤ (a5 : Int) := by omega
                have hle1 : (a5 : Int) ≤ (s.size : Int) := by omega
                obtain ⟨c0, c1, c2, f1, f2⟩ := hc6.cells
                by_cases hn : n = (crcSum (s.extract a2 a5) : Nat)
                · have h5 : f5S s a e = 0 := by rw [HM5.out, if_neg (fun h => h.2 hn)]
                  rw [h5, if_neg (by decide)] at hfr
                  rw [hfr] at HR
                  clear hfr
                  have HN := Lib.hid hn
                  have hnb : (n == ((crcSum (s.extract a2 a5) : Nat) : Int)) = true := by simpa using hn
                  clear hn
                  go_wp2_with fail
                  refine fresh_d (fun W => RCur W g s a6 0 ∧ Blk W r 39 #[.int .u8 0, .int .u8 0, .string ⟨#[]⟩] ∧ Ext (· = g) w W) (fun n => ⟨hc6, hR6, hx6'.drewN n⟩) (ref05_Sum _ _ hxz) ?_
                  rintro w7 ⟨hc7, hR7, hx7⟩
                  clear hc6 hR6 hx6' c0 c1 c2 f1 f2
                  obtain ⟨c0, c1, c2, f1, f2⟩ := hc7.cells
                  have d0 : w7.cell? ⟨r, 0, none⟩ = some (.int .u8 0) := (Blk.cell hR7 0).trans rfl
                  have d1 : w7.cell? ⟨r, 1, none⟩ = some (.int .u8 0) := (Blk.cell hR7 1).trans rfl
                  have d2 : w7.cell? ⟨r, 2, none⟩ = some (.string ⟨#[]⟩) := (Blk.cell hR7 2).trans rfl
                  have g0 := Blk.frozen hR7 0
                  have g1 := Blk.frozen hR7 1
                  have g2 := Blk.frozen hR7 2
                  go_wp2
                  have u1 : Ext (fun b => b = r) w7 _ := ((Ext.self w7 r 0 (.int .u8 1)).setCell (p := ⟨r, 1, none⟩) (fun _ => rfl) (.int .u8 kd)).setCell (p := ⟨r, 2, none⟩) (fun _ => rfl) (.string p)
                  exact bodyPost_ret (v := .agg #[.int .u8 1, .int .u8 kd, .string p]) (by simp [results, go_sem, d0, d1, d2]) rfl
                    (HR.out _ (Blk.ext hc7 u1 hgr) (hx7.trans u1 (fun b hb e => absurd hb (by rw [e]; exact Nat.not_lt.2 (Nat.le_of_eq HRE.out)))))
                · have h5 : f5S s a e = 12 := by rw [HM5.out, if_pos ⟨rfl, hn⟩]
                  rw [h5, if_pos (by decide)] at hfr
                  rw [hfr] at HR
                  clear hfr
                  have hnb : (n == ((crcSum (s.extract a2 a5) : Nat) : Int)) = false := by simpa using hn
                  clear hn
                  go_wp2_with fail
                  refine fresh_d (fun W => RCur W g s a6 0 ∧ Blk W r 39 #[.int .u8 0, .int .u8 0, .string ⟨#[]⟩] ∧ Ext (· = g) w W) (fun n => ⟨hc6, hR6, hx6'.drewN n⟩) (ref05_Sum _ _ hxz) ?_
                  rintro w7 ⟨hc7, hR7, hx7⟩
                  clear hc6 hR6 hx6' c0 c1 c2 f1 f2
                  obtain ⟨c0, c1, c2, f1, f2⟩ := hc7.cells
                  have d0 : w7.cell? ⟨r, 0, none⟩ = some (.int .u8 0) := (Blk.cell hR7 0).trans rfl
                  have d1 : w7.cell? ⟨r, 1, none⟩ = some (.int .u8 0) := (Blk.cell hR7 1).trans rfl
                  have d2 : w7.cell? ⟨r, 2, none⟩ = some (.string ⟨#[]⟩) := (Blk.cell hR7 2).trans rfl
                  have g0 := Blk.frozen hR7 0
                  have g1 := Blk.frozen hR7 1
                  have g2 := Blk.frozen hR7 2
                  have hc8 : RCur (w7.setCell ⟨g, 2, none⟩ (.int .i64 12)) g s a6 12 := Blk.set hc7 2 _
                  have hx8 : Ext (· = g) w (w7.setCell ⟨g, 2, none⟩ (.int .i64 12)) := hx7.trans (Ext.self w7 g 2 _) (fun _ _ e => e)
                  go_wp2
                  have u1 : Ext (fun b => b = r) (w7.setCell ⟨g, 2, none⟩ (.int .i64 12)) _ := ((Ext.self (w7.setCell ⟨g, 2, none⟩ (.int .i64 12)) r 0 (.int .u8 0)).setCell (p := ⟨r, 1, none⟩) (fun _ => rfl) (.int .u8 0)).setCell (p := ⟨r, 2, none⟩) (fun _ => rfl) (.string ⟨#[]⟩)
                  exact bodyPost_ret (v := .agg #[.int .u8 0, .int .u8 0, .string ⟨#[]⟩]) (by simp [results, go_sem, d0, d1, d2]) rfl
                    (HR.out _ (Blk.ext hc8 u1 hgr) (hx8.trans u1 (fun b hb e => absurd hb (by rw [e]; exact Nat.not_lt.2 (Nat.le_of_eq HRE.out)))))
              · have h5 : f5S s a e = e6 := by rw [HM5.out, if_neg (fun h => he6 h.1)]
                have heb : (e6 == 0) = false := by simpa using he6
                rw [h5, if_pos he6] at hfr
                rw [hfr] at HR
                clear hfr
                obtain ⟨c0, c1, c2, f1, f2⟩ := hc6.cells
                have hR7 := hR6
                have d0 : w6.cell? ⟨r, 0, none⟩ = some (.int .u8 0) := (Blk.cell hR7 0).trans rfl
                have d1 : w6.cell? ⟨r, 1, none⟩ = some (.int .u8 0) := (Blk.cell hR7 1).trans rfl
                have d2 : w6.cell? ⟨r, 2, none⟩ = some (.string ⟨#[]⟩) := (Blk.cell hR7 2).trans rfl
                have g0 := Blk.frozen hR7 0
                have g1 := Blk.frozen hR7 1
                have g2 := Blk.frozen hR7 2
                go_wp2
                have u1 : Ext (fun b => b = r) w6 _ := ((Ext.self w6 r 0 (.int .u8 0)).setCell (p := ⟨r, 1, none⟩) (fun _ => rfl) (.int .u8 0)).setCell (p := ⟨r, 2, none⟩) (fun _ => rfl) (.string ⟨#[]⟩)
                exact bodyPost_ret (v := .agg #[.int .u8 0, .int .u8 0, .string ⟨#[]⟩]) (by simp [results, go_sem, d0, d1, d2]) rfl
                  (HR.out _ (Blk.ext hc6 u1 hgr) (hx6'.trans u1 (fun b hb e => absurd hb (by rw [e]; exact Nat.not_lt.2 (Nat.le_of_eq HRE.out)))))
            · by_cases hv2 : v = 2
              · have HM1 := Lib.hid (hm1.trans (congrArg (fun z => (v, a3, z)) (if_neg (fun h => h.2 (.inr hv2)))))
                clear hm1 hv1
                subst hv2
                obtain ⟨kd, a4, e4, hq4⟩ : ∃ kd a4 e4, byteR s a3 0 = (kd, a4, e4) := ⟨_, _, _, rfl⟩
                have hat4 := byteR_at (s := s) (at_ := a3) (err := 0) hat3
                have hkr := byteR_range s a3 0
                have m2 : f2S s a e = (kd, a4, e4) := by unfold f2S; rw [HM1.out]; exact hq4
                rw [hq4] at hat4 hkr
                dsimp only at hat4 hkr
                have hkw : IntKind.u8.wrap kd = kd := by rw [IntKind.wrap_u8]; omega
                obtain ⟨p, a5, e5, hq5⟩ : ∃ p a5 e5, blobR s a4 e4 65536 = (p, a5, e5) := ⟨_, _, _, rfl⟩
                have hat5 := blobR_at (s := s) (a := a4) (e := e4) 65536 hat4
                have m3 : f3S s a e = (p, a5, e5) := by unfold f3S; rw [m2]; exact hq5
                rw [hq5] at hat5
                dsimp only at hat5
                obtain ⟨n, a6, e6, hq6⟩ : ∃ n a6 e6, fixTakeR s a5 e5 4 = (n, a6, e6) := ⟨_, _, _, rfl⟩
                have m4 : f4S s a e = (n, a6, e6) := by unfold f4S; rw [m3]; exact hq6
                have hle := f03_le s a e
                rw [m3, HF0.out] at hle
                dsimp only at hle
                have hat6 := fixTakeR_at (s := s) (at_ := a5) (err := e5) 4 hat5
                rw [hq6] at hat6
                dsimp only at hat6
                have m5 : f5S s a e = if e6 = 0 ∧ n ≠ (crcSum (s.extract a2 a5) : Nat) then 12 else e6 := by unfold f5S; rw [m4, m3, HF0.out]
                have hxz : (s.extract a2 a5).size ≤ 9223372036854775806 := by rw [ByteArray.size_extract]; omega
                have hcl : crcSum (s.extract a2 a5) < 4294967296 := cpl_lt _
                have hwr : IntKind.u64.wrap ((crcSum (s.extract a2 a5) : Nat) : Int) = ((crcSum (s.extract a2 a5) : Nat) : Int) := by rw [IntKind.wrap_u64]; omega
                have HQ4 := Lib.hid hq4
                have HQ5 := Lib.hid hq5
                have HQ6 := Lib.hid hq6
                have HM2 := Lib.hid m2
                have HM3 := Lib.hid m3
                have HM4 := Lib.hid m4
                have HM5 := Lib.hid m5
                clear hq4 hq5 hq6 m2 m3 m4 m5
                go_wp2_with fail
                refine ref01_Byte g s a3 0 _ hc3 hat3 hs ?_
                rw [HQ4.out]; dsimp only
                intro w4 hc4 hx4
                have hR4 := hR3.ext hx4 (fun e => hgr e.symm)
                have hx4' := hx3.trans hx4 (fun _ _ e => e)
                clear hR3 hx3 hx4 hc3
                go_wp2_with fail
                refine ref06_Take g s a4 e4 65536 _ hc4 hat4 hs (by decide) ?_
                rw [HQ5.out]; dsimp only
                intro w5 hc5 hx5
                have hR5 := hR4.ext hx5 (fun e => hgr e.symm)
                have hx5' := hx4'.trans hx5 (fun _ _ e => e)
                clear hR4 hx4' hx5 hc4
                obtain ⟨c0, c1, c2, f1, f2⟩ := hc5.cells
                go_wp2_with fail
                refine ref04_Take 4 g s a5 e5 _ hc5 hat5 hs ?_
                rw [HQ6.out]; dsimp only
                intro w6 hc6 hx6
                have hR6 := hR5.ext hx6 (fun e => hgr e.symm)
                have hx6' := hx5'.trans hx6 (fun _ _ e => e)
                clear hR5 hx5' hx6 hc5 c0 c1 c2 f1 f2
                have hfr : frT s a e = (if f5S s a e ≠ 0 then (0, 0, ⟨#[]⟩) else (2, kd, p), a6, f5S s a e) := by unfold frT; rw [HM4.out, HM3.out, HM2.out, HM1.out]
                by_cases he6 : e6 = 0
                · subst he6
                  have hle0 : (a2 : Int) ≤ (a5 : Int) := by omega
                  have hle1 : (a5 : Int) ≤ (s.size : Int) := by omega
                  obtain ⟨c0, c1, c2, f1, f2⟩ := hc6.cells
                  by_cases hn : n = (crcSum (s.extract a2 a5) : Nat)
                  · have h5 : f5S s a e = 0 := by rw [HM5.out, if_neg (fun h => h.2 hn)]
                    rw [h5, if_neg (by decide)] at hfr
                    rw [hfr] at HR
                    clear hfr
                    have HN := Lib.hid hn
                    have hnb : (n == ((crcSum (s.extract a2 a5) : Nat) : Int)) = true := by simpa using hn
                    clear hn
                    go_wp2_with fail
                    refine fresh_d (fun W => RCur W g s a6 0 ∧ Blk W r 39 #[.int .u8 0, .int .u8 0, .string ⟨#[]⟩] ∧ Ext (· = g) w W) (fun n => ⟨hc6, hR6, hx6'.drewN n⟩) (ref05_Sum _ _ hxz) ?_
                    rintro w7 ⟨hc7, hR7, hx7⟩
                    clear hc6 hR6 hx6' c0 c1 c2 f1 f2
                    obtain ⟨c0, c1, c2, f1, f2⟩ := hc7.cells
                    have d0 : w7.cell? ⟨r, 0, none⟩ = some (.int .u8 0) := (Blk.cell hR7 0).trans rfl
                    have d1 : w7.cell? ⟨r, 1, none⟩ = some (.int .u8 0) := (Blk.cell hR7 1).trans rfl
                    have d2 : w7.cell? ⟨r, 2, none⟩ = some (.string ⟨#[]⟩) := (Blk.cell hR7 2).trans rfl
                    have g0 := Blk.frozen hR7 0
                    have g1 := Blk.frozen hR7 1
                    have g2 := Blk.frozen hR7 2
                    go_wp2
                    have u1 : Ext (fun b => b = r) w7 _ := ((Ext.self w7 r 0 (.int .u8 2)).setCell (p := ⟨r, 1, none⟩) (fun _ => rfl) (.int .u8 kd)).setCell (p := ⟨r, 2, none⟩) (fun _ => rfl) (.string p)
                    exact bodyPost_ret (v := .agg #[.int .u8 2, .int .u8 kd, .string p]) (by simp [results, go_sem, d0, d1, d2]) rfl
                      (HR.out _ (Blk.ext hc7 u1 hgr) (hx7.trans u1 (fun b hb e => absurd hb (by rw [e]; exact Nat.not_lt.2 (Nat.le_of_eq HRE.out)))))
                  · have h5 : f5S s a e = 12 := by rw [HM5.out, if_pos ⟨rfl, hn⟩]
                    rw [h5, if_pos (by decide)] at hfr
                    rw [hfr] at HR
                    clear hfr
                    have hnb : (n == ((crcSum (s.extract a2 a5) : Nat) : Int)) = false := by simpa using hn
                    clear hn
                    go_wp2_with fail
                    refine fresh_d (fun W => RCur W g s a6 0 ∧ Blk W r 39 #[.int .u8 0, .int .u8 0, .string ⟨#[]⟩] ∧ Ext (· = g) w W) (fun n => ⟨hc6, hR6, hx6'.drewN n⟩) (ref05_Sum _ _ hxz) ?_
                    rintro w7 ⟨hc7, hR7, hx7⟩
                    clear hc6 hR6 hx6' c0 c1 c2 f1 f2
                    obtain ⟨c0, c1, c2, f1, f2⟩ := hc7.cells
                    have d0 : w7.cell? ⟨r, 0, none⟩ = some (.int .u8 0) := (Blk.cell hR7 0).trans rfl
                    have d1 : w7.cell? ⟨r, 1, none⟩ = some (.int .u8 0) := (Blk.cell hR7 1).trans rfl
                    have d2 : w7.cell? ⟨r, 2, none⟩ = some (.string ⟨#[]⟩) := (Blk.cell hR7 2).trans rfl
                    have g0 := Blk.frozen hR7 0
                    have g1 := Blk.frozen hR7 1
                    have g2 := Blk.frozen hR7 2
                    have hc8 : RCur (w7.setCell ⟨g, 2, none⟩ (.int .i64 12)) g s a6 12 := Blk.set hc7 2 _
                    have hx8 : Ext (· = g) w (w7.setCell ⟨g, 2, none⟩ (.int .i64 12)) := hx7.trans (Ext.self w7 g 2 _) (fun _ _ e => e)
                    go_wp2
                    have u1 : Ext (fun b => b = r) (w7.setCell ⟨g, 2, none⟩ (.int .i64 12)) _ := ((Ext.self (w7.setCell ⟨g, 2, none⟩ (.int .i64 12)) r 0 (.int .u8 0)).setCell (p := ⟨r, 1, none⟩) (fun _ => rfl) (.int .u8 0)).setCell (p := ⟨r, 2, none⟩) (fun _ => rfl) (.string ⟨#[]⟩)
                    exact bodyPost_ret (v := .agg #[.int .u8 0, .int .u8 0, .string ⟨#[]⟩]) (by simp [results, go_sem, d0, d1, d2]) rfl
                      (HR.out _ (Blk.ext hc8 u1 hgr) (hx8.trans u1 (fun b hb e => absurd hb (by rw [e]; exact Nat.not_lt.2 (Nat.le_of_eq HRE.out)))))
                · have h5 : f5S s a e = e6 := by rw [HM5.out, if_neg (fun h => he6 h.1)]
                  have heb : (e6 == 0) = false := by simpa using he6
                  rw [h5, if_pos he6] at hfr
                  rw [hfr] at HR
                  clear hfr
                  obtain ⟨c0, c1, c2, f1, f2⟩ := hc6.cells
                  have hR7 := hR6
                  have d0 : w6.cell? ⟨r, 0, none⟩ = some (.int .u8 0) := (Blk.cell hR7 0).trans rfl
                  have d1 : w6.cell? ⟨r, 1, none⟩ = some (.int .u8 0) := (Blk.cell hR7 1).trans rfl
                  have d2 : w6.cell? ⟨r, 2, none⟩ = some (.string ⟨#[]⟩) := (Blk.cell hR7 2).trans rfl
                  have g0 := Blk.frozen hR7 0
                  have g1 := Blk.frozen hR7 1
                  have g2 := Blk.frozen hR7 2
                  go_wp2
                  have u1 : Ext (fun b => b = r) w6 _ := ((Ext.self w6 r 0 (.int .u8 0)).setCell (p := ⟨r, 1, none⟩) (fun _ => rfl) (.int .u8 0)).setCell (p := ⟨r, 2, none⟩) (fun _ => rfl) (.string ⟨#[]⟩)
                  exact bodyPost_ret (v := .agg #[.int .u8 0, .int .u8 0, .string ⟨#[]⟩]) (by simp [results, go_sem, d0, d1, d2]) rfl
                    (HR.out _ (Blk.ext hc6 u1 hgr) (hx6'.trans u1 (fun b hb e => absurd hb (by rw [e]; exact Nat.not_lt.2 (Nat.le_of_eq HRE.out)))))
              · have HM1 := Lib.hid (hm1.trans (congrArg (fun z => (v, a3, z)) (if_pos ⟨rfl, by omega⟩)))
                have hvb : (v != 1) = true := by simpa using hv1
                have hvc : (v != 2) = true := by simpa using hv2
                have hc4 : RCur (w3.setCell ⟨g, 2, none⟩ (.int .i64 10)) g s a3 10 := Blk.set hc3 2 _
                have hx4 : Ext (· = g) w (w3.setCell ⟨g, 2, none⟩ (.int .i64 10)) := hx3.trans (Ext.self w3 g 2 _) (fun _ _ e => e)
                have hR4 := hR3.ext (Ext.self w3 g 2 (.int .i64 10)) (fun e => hgr e.symm)
                clear hm1 hv1 hv2
                go_wp2_with fail
                have hc3 := hc4
                have hx3 := hx4
                have hR3 := hR4
                clear hc4 hx4 hR4 c0 c1 c2
                generalize (w3.setCell ⟨g, 2, none⟩ (.int .i64 10)) = w3' at *
                obtain ⟨kd, a4, e4, hq4⟩ : ∃ kd a4 e4, byteR s a3 10 = (kd, a4, e4) := ⟨_, _, _, rfl⟩
                have hat4 := byteR_at (s := s) (at_ := a3) (err := 10) hat3
                have hkr := byteR_range s a3 10
                have m2 : f2S s a e = (kd, a4, e4) := by unfold f2S; rw [HM1.out]; exact hq4
                rw [hq4] at hat4 hkr
                dsimp only at hat4 hkr
                have hkw : IntKind.u8.wrap kd = kd := by rw [IntKind.wrap_u8]; omega
                obtain ⟨p, a5, e5, hq5⟩ : ∃ p a5 e5, blobR s a4 e4 65536 = (p, a5, e5) := ⟨_, _, _, rfl⟩
                have hat5 := blobR_at (s := s) (a := a4) (e := e4) 65536 hat4
                have m3 : f3S s a e = (p, a5, e5) := by unfold f3S; rw [m2]; exact hq5
                rw [hq5] at hat5
                dsimp only at hat5
                obtain ⟨n, a6, e6, hq6⟩ : ∃ n a6 e6, fixTakeR s a5 e5 4 = (n, a6, e6) := ⟨_, _, _, rfl⟩
                have m4 : f4S s a e = (n, a6, e6) := by unfold f4S; rw [m3]; exact hq6
                have hle := f03_le s a e
                rw [m3, HF0.out] at hle
                dsimp only at hle
                have hat6 := fixTakeR_at (s := s) (at_ := a5) (err := e5) 4 hat5
                rw [hq6] at hat6
                dsimp only at hat6
                have m5 : f5S s a e = if e6 = 0 ∧ n ≠ (crcSum (s.extract a2 a5) : Nat) then 12 else e6 := by unfold f5S; rw [m4, m3, HF0.out]
                have hxz : (s.extract a2 a5).size ≤ 9223372036854775806 := by rw [ByteArray.size_extract]; omega
                have hcl : crcSum (s.extract a2 a5) < 4294967296 := cpl_lt _
                have hwr : IntKind.u64.wrap ((crcSum (s.extract a2 a5) : Nat) : Int) = ((crcSum (s.extract a2 a5) : Nat) : Int) := by rw [IntKind.wrap_u64]; omega
                have HQ4 := Lib.hid hq4
                have HQ5 := Lib.hid hq5
                have HQ6 := Lib.hid hq6
                have HM2 := Lib.hid m2
                have HM3 := Lib.hid m3
                have HM4 := Lib.hid m4
                have HM5 := Lib.hid m5
                clear hq4 hq5 hq6 m2 m3 m4 m5
                go_wp2_with fail
                refine ref01_Byte g s a3 10 _ hc3 hat3 hs ?_
                rw [HQ4.out]; dsimp only
                intro w4 hc4 hx4
                have hR4 := hR3.ext hx4 (fun e => hgr e.symm)
                have hx4' := hx3.trans hx4 (fun _ _ e => e)
                clear hR3 hx3 hx4 hc3
                go_wp2_with fail
                refine ref06_Take g s a4 e4 65536 _ hc4 hat4 hs (by decide) ?_
                rw [HQ5.out]; dsimp only
                intro w5 hc5 hx5
                have hR5 := hR4.ext hx5 (fun e => hgr e.symm)
                have hx5' := hx4'.trans hx5 (fun _ _ e => e)
                clear hR4 hx4' hx5 hc4
                obtain ⟨c0, c1, c2, f1, f2⟩ := hc5.cells
                go_wp2_with fail
                refine ref04_Take 4 g s a5 e5 _ hc5 hat5 hs ?_
                rw [HQ6.out]; dsimp only
                intro w6 hc6 hx6
                have hR6 := hR5.ext hx6 (fun e => hgr e.symm)
                have hx6' := hx5'.trans hx6 (fun _ _ e => e)
                clear hR5 hx5' hx6 hc5 c0 c1 c2 f1 f2
                have hfr : frT s a e = (if f5S s a e ≠ 0 then (0, 0, ⟨#[]⟩) else (v, kd, p), a6, f5S s a e) := by unfold frT; rw [HM4.out, HM3.out, HM2.out, HM1.out]
                by_cases he6 : e6 = 0
                · subst he6
                  have hle0 : (a2 : Int) ≤ (a5 : Int) := by omega
                  have hle1 : (a5 : Int) ≤ (s.size : Int) := by omega
                  obtain ⟨c0, c1, c2, f1, f2⟩ := hc6.cells
                  by_cases hn : n = (crcSum (s.extract a2 a5) : Nat)
                  · have h5 : f5S s a e = 0 := by rw [HM5.out, if_neg (fun h => h.2 hn)]
                    rw [h5, if_neg (by decide)] at hfr
                    rw [hfr] at HR
                    clear hfr
                    have HN := Lib.hid hn
                    have hnb : (n == ((crcSum (s.extract a2 a5) : Nat) : Int)) = true := by simpa using hn
                    clear hn
                    go_wp2_with fail
                    refine fresh_d (fun W => RCur W g s a6 0 ∧ Blk W r 39 #[.int .u8 0, .int .u8 0, .string ⟨#[]⟩] ∧ Ext (· = g) w W) (fun n => ⟨hc6, hR6, hx6'.drewN n⟩) (ref05_Sum _ _ hxz) ?_
                    rintro w7 ⟨hc7, hR7, hx7⟩
                    clear hc6 hR6 hx6' c0 c1 c2 f1 f2
                    obtain ⟨c0, c1, c2, f1, f2⟩ := hc7.cells
                    have d0 : w7.cell? ⟨r, 0, none⟩ = some (.int .u8 0) := (Blk.cell hR7 0).trans rfl
                    have d1 : w7.cell? ⟨r, 1, none⟩ = some (.int .u8 0) := (Blk.cell hR7 1).trans rfl
                    have d2 : w7.cell? ⟨r, 2, none⟩ = some (.string ⟨#[]⟩) := (Blk.cell hR7 2).trans rfl
                    have g0 := Blk.frozen hR7 0
                    have g1 := Blk.frozen hR7 1
                    have g2 := Blk.frozen hR7 2
                    go_wp2
                    have u1 : Ext (fun b => b = r) w7 _ := ((Ext.self w7 r 0 (.int .u8 v)).setCell (p := ⟨r, 1, none⟩) (fun _ => rfl) (.int .u8 kd)).setCell (p := ⟨r, 2, none⟩) (fun _ => rfl) (.string p)
                    exact bodyPost_ret (v := .agg #[.int .u8 v, .int .u8 kd, .string p]) (by simp [results, go_sem, d0, d1, d2]) rfl
                      (HR.out _ (Blk.ext hc7 u1 hgr) (hx7.trans u1 (fun b hb e => absurd hb (by rw [e]; exact Nat.not_lt.2 (Nat.le_of_eq HRE.out)))))
                  · have h5 : f5S s a e = 12 := by rw [HM5.out, if_pos ⟨rfl, hn⟩]
                    rw [h5, if_pos (by decide)] at hfr
                    rw [hfr] at HR
                    clear hfr
                    have hnb : (n == ((crcSum (s.extract a2 a5) : Nat) : Int)) = false := by simpa using hn
                    clear hn
                    go_wp2_with fail
                    refine fresh_d (fun W => RCur W g s a6 0 ∧ Blk W r 39 #[.int .u8 0, .int .u8 0, .string ⟨#[]⟩] ∧ Ext (· = g) w W) (fun n => ⟨hc6, hR6, hx6'.drewN n⟩) (ref05_Sum _ _ hxz) ?_
                    rintro w7 ⟨hc7, hR7, hx7⟩
                    clear hc6 hR6 hx6' c0 c1 c2 f1 f2
                    obtain ⟨c0, c1, c2, f1, f2⟩ := hc7.cells
                    have d0 : w7.cell? ⟨r, 0, none⟩ = some (.int .u8 0) := (Blk.cell hR7 0).trans rfl
                    have d1 : w7.cell? ⟨r, 1, none⟩ = some (.int .u8 0) := (Blk.cell hR7 1).trans rfl
                    have d2 : w7.cell? ⟨r, 2, none⟩ = some (.string ⟨#[]⟩) := (Blk.cell hR7 2).trans rfl
                    have g0 := Blk.frozen hR7 0
                    have g1 := Blk.frozen hR7 1
                    have g2 := Blk.frozen hR7 2
                    have hc8 : RCur (w7.setCell ⟨g, 2, none⟩ (.int .i64 12)) g s a6 12 := Blk.set hc7 2 _
                    have hx8 : Ext (· = g) w (w7.setCell ⟨g, 2, none⟩ (.int .i64 12)) := hx7.trans (Ext.self w7 g 2 _) (fun _ _ e => e)
                    go_wp2
                    have u1 : Ext (fun b => b = r) (w7.setCell ⟨g, 2, none⟩ (.int .i64 12)) _ := ((Ext.self (w7.setCell ⟨g, 2, none⟩ (.int .i64 12)) r 0 (.int .u8 0)).setCell (p := ⟨r, 1, none⟩) (fun _ => rfl) (.int .u8 0)).setCell (p := ⟨r, 2, none⟩) (fun _ => rfl) (.string ⟨#[]⟩)
                    exact bodyPost_ret (v := .agg #[.int .u8 0, .int .u8 0, .string ⟨#[]⟩]) (by simp [results, go_sem, d0, d1, d2]) rfl
                      (HR.out _ (Blk.ext hc8 u1 hgr) (hx8.trans u1 (fun b hb e => absurd hb (by rw [e]; exact Nat.not_lt.2 (Nat.le_of_eq HRE.out)))))
                · have h5 : f5S s a e = e6 := by rw [HM5.out, if_neg (fun h => he6 h.1)]
                  have heb : (e6 == 0) = false := by simpa using he6
                  rw [h5, if_pos he6] at hfr
                  rw [hfr] at HR
                  clear hfr
                  obtain ⟨c0, c1, c2, f1, f2⟩ := hc6.cells
                  have hR7 := hR6
                  have d0 : w6.cell? ⟨r, 0, none⟩ = some (.int .u8 0) := (Blk.cell hR7 0).trans rfl
                  have d1 : w6.cell? ⟨r, 1, none⟩ = some (.int .u8 0) := (Blk.cell hR7 1).trans rfl
                  have d2 : w6.cell? ⟨r, 2, none⟩ = some (.string ⟨#[]⟩) := (Blk.cell hR7 2).trans rfl
                  have g0 := Blk.frozen hR7 0
                  have g1 := Blk.frozen hR7 1
                  have g2 := Blk.frozen hR7 2
                  go_wp2
                  have u1 : Ext (fun b => b = r) w6 _ := ((Ext.self w6 r 0 (.int .u8 0)).setCell (p := ⟨r, 1, none⟩) (fun _ => rfl) (.int .u8 0)).setCell (p := ⟨r, 2, none⟩) (fun _ => rfl) (.string ⟨#[]⟩)
                  exact bodyPost_ret (v := .agg #[.int .u8 0, .int .u8 0, .string ⟨#[]⟩]) (by simp [results, go_sem, d0, d1, d2]) rfl
                    (HR.out _ (Blk.ext hc6 u1 hgr) (hx6'.trans u1 (fun b hb e => absurd hb (by rw [e]; exact Nat.not_lt.2 (Nat.le_of_eq HRE.out)))))
          · have HM1 := Lib.hid (hm1.trans (congrArg (fun z => (v, a3, z)) (if_neg (fun h => he3 h.1))))
            have heb : (e3r == 0) = false := by simpa using he3
            clear hm1
            obtain ⟨kd, a4, e4, hq4⟩ : ∃ kd a4 e4, byteR s a3 e3r = (kd, a4, e4) := ⟨_, _, _, rfl⟩
            have hat4 := byteR_at (s := s) (at_ := a3) (err := e3r) hat3
            have hkr := byteR_range s a3 e3r
            have m2 : f2S s a e = (kd, a4, e4) := by unfold f2S; rw [HM1.out]; exact hq4
            rw [hq4] at hat4 hkr
            dsimp only at hat4 hkr
            have hkw : IntKind.u8.wrap kd = kd := by rw [IntKind.wrap_u8]; omega
            obtain ⟨p, a5, e5, hq5⟩ : ∃ p a5 e5, blobR s a4 e4 65536 = (p, a5, e5) := ⟨_, _, _, rfl⟩
            have hat5 := blobR_at (s := s) (a := a4) (e := e4) 65536 hat4
            have m3 : f3S s a e = (p, a5, e5) := by unfold f3S; rw [m2]; exact hq5
            rw [hq5] at hat5
            dsimp only at hat5
            obtain ⟨n, a6, e6, hq6⟩ : ∃ n a6 e6, fixTakeR s a5 e5 4 = (n, a6, e6) := ⟨_, _, _, rfl⟩
            have m4 : f4S s a e = (n, a6, e6) := by unfold f4S; rw [m3]; exact hq6
            have hle := f03_le s a e
            rw [m3, HF0.out] at hle
            dsimp only at hle
            have hat6 := fixTakeR_at (s := s) (at_ := a5) (err := e5) 4 hat5
            rw [hq6] at hat6
            dsimp only at hat6
            have m5 : f5S s a e = if e6 = 0 ∧ n ≠ (crcSum (s.extract a2 a5) : Nat) then 12 else e6 := by unfold f5S; rw [m4, m3, HF0.out]
            have hxz : (s.extract a2 a5).size ≤ 9223372036854775806 := by rw [ByteArray.size_extract]; omega
            have hcl : crcSum (s.extract a2 a5) < 4294967296 := cpl_lt _
            have hwr : IntKind.u64.wrap ((crcSum (s.extract a2 a5) : Nat) : Int) = ((crcSum (s.extract a2 a5) : Nat) : Int) := by rw [IntKind.wrap_u64]; omega
            have HQ4 := Lib.hid hq4
            have HQ5 := Lib.hid hq5
            have HQ6 := Lib.hid hq6
            have HM2 := Lib.hid m2
            have HM3 := Lib.hid m3
            have HM4 := Lib.hid m4
            have HM5 := Lib.hid m5
            clear hq4 hq5 hq6 m2 m3 m4 m5
            go_wp2_with fail
            refine ref01_Byte g s a3 e3r _ hc3 hat3 hs ?_
            rw [HQ4.out]; dsimp only
            intro w4 hc4 hx4
            have hR4 := hR3.ext hx4 (fun e => hgr e.symm)
            have hx4' := hx3.trans hx4 (fun _ _ e => e)
            clear hR3 hx3 hx4 hc3
            go_wp2_with fail
            refine ref06_Take g s a4 e4 65536 _ hc4 hat4 hs (by decide) ?_
            rw [HQ5.out]; dsimp only
            intro w5 hc5 hx5
            have hR5 := hR4.ext hx5 (fun e => hgr e.symm)
            have hx5' := hx4'.trans hx5 (fun _ _ e => e)
            clear hR4 hx4' hx5 hc4
            obtain ⟨c0, c1, c2, f1, f2⟩ := hc5.cells
            go_wp2_with fail
            refine ref04_Take 4 g s a5 e5 _ hc5 hat5 hs ?_
            rw [HQ6.out]; dsimp only
            intro w6 hc6 hx6
            have hR6 := hR5.ext hx6 (fun e => hgr e.symm)
            have hx6' := hx5'.trans hx6 (fun _ _ e => e)
            clear hR5 hx5' hx6 hc5 c0 c1 c2 f1 f2
            have hfr : frT s a e = (if f5S s a e ≠ 0 then (0, 0, ⟨#[]⟩) else (v, kd, p), a6, f5S s a e) := by unfold frT; rw [HM4.out, HM3.out, HM2.out, HM1.out]
            by_cases he6 : e6 = 0
            · subst he6
              have hle0 : (a2 : Int) ≤ (a5 : Int) := by omega
              have hle1 : (a5 : Int) ≤ (s.size : Int) := by omega
              obtain ⟨c0, c1, c2, f1, f2⟩ := hc6.cells
              by_cases hn : n = (crcSum (s.extract a2 a5) : Nat)
              · have h5 : f5S s a e = 0 := by rw [HM5.out, if_neg (fun h => h.2 hn)]
                rw [h5, if_neg (by decide)] at hfr
                rw [hfr] at HR
                clear hfr
                have HN := Lib.hid hn
                have hnb : (n == ((crcSum (s.extract a2 a5) : Nat) : Int)) = true := by simpa using hn
                clear hn
                go_wp2_with fail
                refine fresh_d (fun W => RCur W g s a6 0 ∧ Blk W r 39 #[.int .u8 0, .int .u8 0, .string ⟨#[]⟩] ∧ Ext (· = g) w W) (fun n => ⟨hc6, hR6, hx6'.drewN n⟩) (ref05_Sum _ _ hxz) ?_
                rintro w7 ⟨hc7, hR7, hx7⟩
                clear hc6 hR6 hx6' c0 c1 c2 f1 f2
                obtain ⟨c0, c1, c2, f1, f2⟩ := hc7.cells
                have d0 : w7.cell? ⟨r, 0, none⟩ = some (.int .u8 0) := (Blk.cell hR7 0).trans rfl
                have d1 : w7.cell? ⟨r, 1, none⟩ = some (.int .u8 0) := (Blk.cell hR7 1).trans rfl
                have d2 : w7.cell? ⟨r, 2, none⟩ = some (.string ⟨#[]⟩) := (Blk.cell hR7 2).trans rfl
                have g0 := Blk.frozen hR7 0
                have g1 := Blk.frozen hR7 1
                have g2 := Blk.frozen hR7 2
                go_wp2
                have u1 : Ext (fun b => b = r) w7 _ := ((Ext.self w7 r 0 (.int .u8 v)).setCell (p := ⟨r, 1, none⟩) (fun _ => rfl) (.int .u8 kd)).setCell (p := ⟨r, 2, none⟩) (fun _ => rfl) (.string p)
                exact bodyPost_ret (v := .agg #[.int .u8 v, .int .u8 kd, .string p]) (by simp [results, go_sem, d0, d1, d2]) rfl
                  (HR.out _ (Blk.ext hc7 u1 hgr) (hx7.trans u1 (fun b hb e => absurd hb (by rw [e]; exact Nat.not_lt.2 (Nat.le_of_eq HRE.out)))))
              · have h5 : f5S s a e = 12 := by rw [HM5.out, if_pos ⟨rfl, hn⟩]
                rw [h5, if_pos (by decide)] at hfr
                rw [hfr] at HR
                clear hfr
                have hnb : (n == ((crcSum (s.extract a2 a5) : Nat) : Int)) = false := by simpa using hn
                clear hn
                go_wp2_with fail
                refine fresh_d (fun W => RCur W g s a6 0 ∧ Blk W r 39 #[.int .u8 0, .int .u8 0, .string ⟨#[]⟩] ∧ Ext (· = g) w W) (fun n => ⟨hc6, hR6, hx6'.drewN n⟩) (ref05_Sum _ _ hxz) ?_
                rintro w7 ⟨hc7, hR7, hx7⟩
                clear hc6 hR6 hx6' c0 c1 c2 f1 f2
                obtain ⟨c0, c1, c2, f1, f2⟩ := hc7.cells
                have d0 : w7.cell? ⟨r, 0, none⟩ = some (.int .u8 0) := (Blk.cell hR7 0).trans rfl
                have d1 : w7.cell? ⟨r, 1, none⟩ = some (.int .u8 0) := (Blk.cell hR7 1).trans rfl
                have d2 : w7.cell? ⟨r, 2, none⟩ = some (.string ⟨#[]⟩) := (Blk.cell hR7 2).trans rfl
                have g0 := Blk.frozen hR7 0
                have g1 := Blk.frozen hR7 1
                have g2 := Blk.frozen hR7 2
                have hc8 : RCur (w7.setCell ⟨g, 2, none⟩ (.int .i64 12)) g s a6 12 := Blk.set hc7 2 _
                have hx8 : Ext (· = g) w (w7.setCell ⟨g, 2, none⟩ (.int .i64 12)) := hx7.trans (Ext.self w7 g 2 _) (fun _ _ e => e)
                go_wp2
                have u1 : Ext (fun b => b = r) (w7.setCell ⟨g, 2, none⟩ (.int .i64 12)) _ := ((Ext.self (w7.setCell ⟨g, 2, none⟩ (.int .i64 12)) r 0 (.int .u8 0)).setCell (p := ⟨r, 1, none⟩) (fun _ => rfl) (.int .u8 0)).setCell (p := ⟨r, 2, none⟩) (fun _ => rfl) (.string ⟨#[]⟩)
                exact bodyPost_ret (v := .agg #[.int .u8 0, .int .u8 0, .string ⟨#[]⟩]) (by simp [results, go_sem, d0, d1, d2]) rfl
                  (HR.out _ (Blk.ext hc8 u1 hgr) (hx8.trans u1 (fun b hb e => absurd hb (by rw [e]; exact Nat.not_lt.2 (Nat.le_of_eq HRE.out)))))
            · have h5 : f5S s a e = e6 := by rw [HM5.out, if_neg (fun h => he6 h.1)]
              have heb : (e6 == 0) = false := by simpa using he6
              rw [h5, if_pos he6] at hfr
              rw [hfr] at HR
              clear hfr
              obtain ⟨c0, c1, c2, f1, f2⟩ := hc6.cells
              have hR7 := hR6
              have d0 : w6.cell? ⟨r, 0, none⟩ = some (.int .u8 0) := (Blk.cell hR7 0).trans rfl
              have d1 : w6.cell? ⟨r, 1, none⟩ = some (.int .u8 0) := (Blk.cell hR7 1).trans rfl
              have d2 : w6.cell? ⟨r, 2, none⟩ = some (.string ⟨#[]⟩) := (Blk.cell hR7 2).trans rfl
              have g0 := Blk.frozen hR7 0
              have g1 := Blk.frozen hR7 1
              have g2 := Blk.frozen hR7 2
              go_wp2
              have u1 : Ext (fun b => b = r) w6 _ := ((Ext.self w6 r 0 (.int .u8 0)).setCell (p := ⟨r, 1, none⟩) (fun _ => rfl) (.int .u8 0)).setCell (p := ⟨r, 2, none⟩) (fun _ => rfl) (.string ⟨#[]⟩)
              exact bodyPost_ret (v := .agg #[.int .u8 0, .int .u8 0, .string ⟨#[]⟩]) (by simp [results, go_sem, d0, d1, d2]) rfl
                (HR.out _ (Blk.ext hc6 u1 hgr) (hx6'.trans u1 (fun b hb e => absurd hb (by rw [e]; exact Nat.not_lt.2 (Nat.le_of_eq HRE.out)))))
        · have HF0 := Lib.hid (hf0.trans (congrArg (fun z => (a2, z)) (if_pos ⟨rfl, hb⟩)))
          have hbb : (x2 == 78) = false := by simpa using hb
          have hc4 : RCur (w2.setCell ⟨g, 2, none⟩ (.int .i64 9)) g s a2 9 := Blk.set hc2 2 _
          have hx4 : Ext (· = g) w (w2.setCell ⟨g, 2, none⟩ (.int .i64 9)) := hx2.trans (Ext.self w2 g 2 _) (fun _ _ e => e)
          have hR4 := hR2.ext (Ext.self w2 g 2 (.int .i64 9)) (fun e => hgr e.symm)
          clear hf0 hb
          go_wp2_with fail
          have hc2 := hc4
          have hx2 := hx4
          have hR2 := hR4
          clear hc4 hx4 hR4 c0 c1 c2
          generalize (w2.setCell ⟨g, 2, none⟩ (.int .i64 9)) = w2' at *
          have hne : (9 : Int) ≠ 0 := by decide
          have hq : byteR s a2 9 = (0, a2, 9) := by unfold byteR; rw [if_pos hne]
          have HM1 := Lib.hid (show f1S s a e = (0, a2, 9) by unfold f1S; rw [HF0.out]; unfold verS; rw [hq]; exact congrArg (fun z => ((0 : Int), a2, z)) (if_neg (fun h => hne h.1)))
          have HQ := Lib.hid hq
          have hneb : (9 == 0) = false := by first | decide | simpa using hne
          clear hq
          obtain ⟨c0, c1, c2, f1, f2⟩ := hc2.cells
          go_wp2_with fail
          refine ref01_Byte g s a2 9 _ hc2 hat2 hs ?_
          rw [HQ.out]; dsimp only
          intro w3 hc3 hx3
          have hR3 := hR2.ext hx3 (fun e => hgr e.symm)
          have hx3 := hx2.trans hx3 (fun _ _ e => e)
          clear c0 c1 c2 f1 f2 hR2 hx2 hc2
          obtain ⟨c0, c1, c2, f1, f2⟩ := hc3.cells
          obtain ⟨a3, ha3⟩ : ∃ a3 : Nat, a3 = a2 := ⟨_, rfl⟩
          rw [← ha3] at HM1
          rw [← ha3] at hc3
          have hat3 : a3 ≤ s.size := by omega
          clear ha3 HQ
          obtain ⟨kd, a4, e4, hq4⟩ : ∃ kd a4 e4, byteR s a3 9 = (kd, a4, e4) := ⟨_, _, _, rfl⟩
          have hat4 := byteR_at (s := s) (at_ := a3) (err := 9) hat3
          have hkr := byteR_range s a3 9
          have m2 : f2S s a e = (kd, a4, e4) := by unfold f2S; rw [HM1.out]; exact hq4
          rw [hq4] at hat4 hkr
          dsimp only at hat4 hkr
          have hkw : IntKind.u8.wrap kd = kd := by rw [IntKind.wrap_u8]; omega
          obtain ⟨p, a5, e5, hq5⟩ : ∃ p a5 e5, blobR s a4 e4 65536 = (p, a5, e5) := ⟨_, _, _, rfl⟩
          have hat5 := blobR_at (s := s) (a := a4) (e := e4) 65536 hat4
          have m3 : f3S s a e = (p, a5, e5) := by unfold f3S; rw [m2]; exact hq5
          rw [hq5] at hat5
          dsimp only at hat5
          obtain ⟨n, a6, e6, hq6⟩ : ∃ n a6 e6, fixTakeR s a5 e5 4 = (n, a6, e6) := ⟨_, _, _, rfl⟩
          have m4 : f4S s a e = (n, a6, e6) := by unfold f4S; rw [m3]; exact hq6
          have hle := f03_le s a e
          rw [m3, HF0.out] at hle
          dsimp only at hle
          have hat6 := fixTakeR_at (s := s) (at_ := a5) (err := e5) 4 hat5
          rw [hq6] at hat6
          dsimp only at hat6
          have m5 : f5S s a e = if e6 = 0 ∧ n ≠ (crcSum (s.extract a2 a5) : Nat) then 12 else e6 := by unfold f5S; rw [m4, m3, HF0.out]
          have hxz : (s.extract a2 a5).size ≤ 9223372036854775806 := by rw [ByteArray.size_extract]; omega
          have hcl : crcSum (s.extract a2 a5) < 4294967296 := cpl_lt _
          have hwr : IntKind.u64.wrap ((crcSum (s.extract a2 a5) : Nat) : Int) = ((crcSum (s.extract a2 a5) : Nat) : Int) := by rw [IntKind.wrap_u64]; omega
          have HQ4 := Lib.hid hq4
          have HQ5 := Lib.hid hq5
          have HQ6 := Lib.hid hq6
          have HM2 := Lib.hid m2
          have HM3 := Lib.hid m3
          have HM4 := Lib.hid m4
          have HM5 := Lib.hid m5
          clear hq4 hq5 hq6 m2 m3 m4 m5
          go_wp2_with fail
          refine ref01_Byte g s a3 9 _ hc3 hat3 hs ?_
          rw [HQ4.out]; dsimp only
          intro w4 hc4 hx4
          have hR4 := hR3.ext hx4 (fun e => hgr e.symm)
          have hx4' := hx3.trans hx4 (fun _ _ e => e)
          clear hR3 hx3 hx4 hc3
          go_wp2_with fail
          refine ref06_Take g s a4 e4 65536 _ hc4 hat4 hs (by decide) ?_
          rw [HQ5.out]; dsimp only
          intro w5 hc5 hx5
          have hR5 := hR4.ext hx5 (fun e => hgr e.symm)
          have hx5' := hx4'.trans hx5 (fun _ _ e => e)
          clear hR4 hx4' hx5 hc4
          obtain ⟨c0, c1, c2, f1, f2⟩ := hc5.cells
          go_wp2_with fail
          refine ref04_Take 4 g s a5 e5 _ hc5 hat5 hs ?_
          rw [HQ6.out]; dsimp only
          intro w6 hc6 hx6
          have hR6 := hR5.ext hx6 (fun e => hgr e.symm)
          have hx6' := hx5'.trans hx6 (fun _ _ e => e)
          clear hR5 hx5' hx6 hc5 c0 c1 c2 f1 f2
          have hfr : frT s a e = (if f5S s a e ≠ 0 then (0, 0, ⟨#[]⟩) else (0, kd, p), a6, f5S s a e) := by unfold frT; rw [HM4.out, HM3.out, HM2.out, HM1.out]
          by_cases he6 : e6 = 0
          · subst he6
            have hle0 : (a2 : Int) ≤ (a5 : Int) := by omega
            have hle1 : (a5 : Int) ≤ (s.size : Int) := by omega
            obtain ⟨c0, c1, c2, f1, f2⟩ := hc6.cells
            by_cases hn : n = (crcSum (s.extract a2 a5) : Nat)
            · have h5 : f5S s a e = 0 := by rw [HM5.out, if_neg (fun h => h.2 hn)]
              rw [h5, if_neg (by decide)] at hfr
              rw [hfr] at HR
              clear hfr
              have HN := Lib.hid hn
              have hnb : (n == ((crcSum (s.extract a2 a5) : Nat) : Int)) = true := by simpa using hn
              clear hn
              go_wp2_with fail
              refine fresh_d (fun W => RCur W g s a6 0 ∧ Blk W r 39 #[.int .u8 0, .int .u8 0, .string ⟨#[]⟩] ∧ Ext (· = g) w W) (fun n => ⟨hc6, hR6, hx6'.drewN n⟩) (ref05_Sum _ _ hxz) ?_
              rintro w7 ⟨hc7, hR7, hx7⟩
              clear hc6 hR6 hx6' c0 c1 c2 f1 f2
              obtain ⟨c0, c1, c2, f1, f2⟩ := hc7.cells
              have d0 : w7.cell? ⟨r, 0, none⟩ = some (.int .u8 0) := (Blk.cell hR7 0).trans rfl
              have d1 : w7.cell? ⟨r, 1, none⟩ = some (.int .u8 0) := (Blk.cell hR7 1).trans rfl
              have d2 : w7.cell? ⟨r, 2, none⟩ = some (.string ⟨#[]⟩) := (Blk.cell hR7 2).trans rfl
              have g0 := Blk.frozen hR7 0
              have g1 := Blk.frozen hR7 1
              have g2 := Blk.frozen hR7 2
              go_wp2
              have u1 : Ext (fun b => b = r) w7 _ := ((Ext.self w7 r 0 (.int .u8 0)).setCell (p := ⟨r, 1, none⟩) (fun _ => rfl) (.int .u8 kd)).setCell (p := ⟨r, 2, none⟩) (fun _ => rfl) (.string p)
              exact bodyPost_ret (v := .agg #[.int .u8 0, .int .u8 kd, .string p]) (by simp [results, go_sem, d0, d1, d2]) rfl
                (HR.out _ (Blk.ext hc7 u1 hgr) (hx7.trans u1 (fun b hb e => absurd hb (by rw [e]; exact Nat.not_lt.2 (Nat.le_of_eq HRE.out)))))
            · have h5 : f5S s a e = 12 := by rw [HM5.out, if_pos ⟨rfl, hn⟩]
              rw [h5, if_pos (by decide)] at hfr
              rw [hfr] at HR
              clear hfr
              have hnb : (n == ((crcSum (s.extract a2 a5) : Nat) : Int)) = false := by simpa using hn
              clear hn
              go_wp2_with fail
              refine fresh_d (fun W => RCur W g s a6 0 ∧ Blk W r 39 #[.int .u8 0, .int .u8 0, .string ⟨#[]⟩] ∧ Ext (· = g) w W) (fun n => ⟨hc6, hR6, hx6'.drewN n⟩) (ref05_Sum _ _ hxz) ?_
              rintro w7 ⟨hc7, hR7, hx7⟩
              clear hc6 hR6 hx6' c0 c1 c2 f1 f2
              obtain ⟨c0, c1, c2, f1, f2⟩ := hc7.cells
              have d0 : w7.cell? ⟨r, 0, none⟩ = some (.int .u8 0) := (Blk.cell hR7 0).trans rfl
              have d1 : w7.cell? ⟨r, 1, none⟩ = some (.int .u8 0) := (Blk.cell hR7 1).trans rfl
              have d2 : w7.cell? ⟨r, 2, none⟩ = some (.string ⟨#[]⟩) := (Blk.cell hR7 2).trans rfl
              have g0 := Blk.frozen hR7 0
              have g1 := Blk.frozen hR7 1
              have g2 := Blk.frozen hR7 2
              have hc8 : RCur (w7.setCell ⟨g, 2, none⟩ (.int .i64 12)) g s a6 12 := Blk.set hc7 2 _
              have hx8 : Ext (· = g) w (w7.setCell ⟨g, 2, none⟩ (.int .i64 12)) := hx7.trans (Ext.self w7 g 2 _) (fun _ _ e => e)
              go_wp2
              have u1 : Ext (fun b => b = r) (w7.setCell ⟨g, 2, none⟩ (.int .i64 12)) _ := ((Ext.self (w7.setCell ⟨g, 2, none⟩ (.int .i64 12)) r 0 (.int .u8 0)).setCell (p := ⟨r, 1, none⟩) (fun _ => rfl) (.int .u8 0)).setCell (p := ⟨r, 2, none⟩) (fun _ => rfl) (.string ⟨#[]⟩)
              exact bodyPost_ret (v := .agg #[.int .u8 0, .int .u8 0, .string ⟨#[]⟩]) (by simp [results, go_sem, d0, d1, d2]) rfl
                (HR.out _ (Blk.ext hc8 u1 hgr) (hx8.trans u1 (fun b hb e => absurd hb (by rw [e]; exact Nat.not_lt.2 (Nat.le_of_eq HRE.out)))))
          · have h5 : f5S s a e = e6 := by rw [HM5.out, if_neg (fun h => he6 h.1)]
            have heb : (e6 == 0) = false := by simpa using he6
            rw [h5, if_pos he6] at hfr
            rw [hfr] at HR
            clear hfr
            obtain ⟨c0, c1, c2, f1, f2⟩ := hc6.cells
            have hR7 := hR6
            have d0 : w6.cell? ⟨r, 0, none⟩ = some (.int .u8 0) := (Blk.cell hR7 0).trans rfl
            have d1 : w6.cell? ⟨r, 1, none⟩ = some (.int .u8 0) := (Blk.cell hR7 1).trans rfl
            have d2 : w6.cell? ⟨r, 2, none⟩ = some (.string ⟨#[]⟩) := (Blk.cell hR7 2).trans rfl
            have g0 := Blk.frozen hR7 0
            have g1 := Blk.frozen hR7 1
            have g2 := Blk.frozen hR7 2
            go_wp2
            have u1 : Ext (fun b => b = r) w6 _ := ((Ext.self w6 r 0 (.int .u8 0)).setCell (p := ⟨r, 1, none⟩) (fun _ => rfl) (.int .u8 0)).setCell (p := ⟨r, 2, none⟩) (fun _ => rfl) (.string ⟨#[]⟩)
            exact bodyPost_ret (v := .agg #[.int .u8 0, .int .u8 0, .string ⟨#[]⟩]) (by simp [results, go_sem, d0, d1, d2]) rfl
              (HR.out _ (Blk.ext hc6 u1 hgr) (hx6'.trans u1 (fun b hb e => absurd hb (by rw [e]; exact Nat.not_lt.2 (Nat.le_of_eq HRE.out)))))
      · have HF0 := Lib.hid (hf0.trans (congrArg (fun z => (a2, z)) (if_neg (fun h => he2 h.1))))
        have hneb : (e2 == 0) = false := by simpa using he2
        have hne := he2
        clear hf0
        clear hneb
        have hq : byteR s a2 e2 = (0, a2, e2) := by unfold byteR; rw [if_pos hne]
        have HM1 := Lib.hid (show f1S s a e = (0, a2, e2) by unfold f1S; rw [HF0.out]; unfold verS; rw [hq]; exact congrArg (fun z => ((0 : Int), a2, z)) (if_neg (fun h => hne h.1)))
        have HQ := Lib.hid hq
        have hneb : (e2 == 0) = false := by first | decide | simpa using hne
        clear hq
        obtain ⟨c0, c1, c2, f1, f2⟩ := hc2.cells
        go_wp2_with fail
        refine ref01_Byte g s a2 e2 _ hc2 hat2 hs ?_
        rw [HQ.out]; dsimp only
        intro w3 hc3 hx3
        have hR3 := hR2.ext hx3 (fun e => hgr e.symm)
        have hx3 := hx2.trans hx3 (fun _ _ e => e)
        clear c0 c1 c2 f1 f2 hR2 hx2 hc2
        obtain ⟨c0, c1, c2, f1, f2⟩ := hc3.cells
        obtain ⟨a3, ha3⟩ : ∃ a3 : Nat, a3 = a2 := ⟨_, rfl⟩
        rw [← ha3] at HM1
        rw [← ha3] at hc3
        have hat3 : a3 ≤ s.size := by omega
        clear ha3 HQ
        obtain ⟨kd, a4, e4, hq4⟩ : ∃ kd a4 e4, byteR s a3 e2 = (kd, a4, e4) := ⟨_, _, _, rfl⟩
        have hat4 := byteR_at (s := s) (at_ := a3) (err := e2) hat3
        have hkr := byteR_range s a3 e2
        have m2 : f2S s a e = (kd, a4, e4) := by unfold f2S; rw [HM1.out]; exact hq4
        rw [hq4] at hat4 hkr
        dsimp only at hat4 hkr
        have hkw : IntKind.u8.wrap kd = kd := by rw [IntKind.wrap_u8]; omega
        obtain ⟨p, a5, e5, hq5⟩ : ∃ p a5 e5, blobR s a4 e4 65536 = (p, a5, e5) := ⟨_, _, _, rfl⟩
        have hat5 := blobR_at (s := s) (a := a4) (e := e4) 65536 hat4
        have m3 : f3S s a e = (p, a5, e5) := by unfold f3S; rw [m2]; exact hq5
        rw [hq5] at hat5
        dsimp only at hat5
        obtain ⟨n, a6, e6, hq6⟩ : ∃ n a6 e6, fixTakeR s a5 e5 4 = (n, a6, e6) := ⟨_, _, _, rfl⟩
        have m4 : f4S s a e = (n, a6, e6) := by unfold f4S; rw [m3]; exact hq6
        have hle := f03_le s a e
        rw [m3, HF0.out] at hle
        dsimp only at hle
        have hat6 := fixTakeR_at (s := s) (at_ := a5) (err := e5) 4 hat5
        rw [hq6] at hat6
        dsimp only at hat6
        have m5 : f5S s a e = if e6 = 0 ∧ n ≠ (crcSum (s.extract a2 a5) : Nat) then 12 else e6 := by unfold f5S; rw [m4, m3, HF0.out]
        have hxz : (s.extract a2 a5).size ≤ 9223372036854775806 := by rw [ByteArray.size_extract]; omega
        have hcl : crcSum (s.extract a2 a5) < 4294967296 := cpl_lt _
        have hwr : IntKind.u64.wrap ((crcSum (s.extract a2 a5) : Nat) : Int) = ((crcSum (s.extract a2 a5) : Nat) : Int) := by rw [IntKind.wrap_u64]; omega
        have HQ4 := Lib.hid hq4
        have HQ5 := Lib.hid hq5
        have HQ6 := Lib.hid hq6
        have HM2 := Lib.hid m2
        have HM3 := Lib.hid m3
        have HM4 := Lib.hid m4
        have HM5 := Lib.hid m5
        clear hq4 hq5 hq6 m2 m3 m4 m5
        go_wp2_with fail
        refine ref01_Byte g s a3 e2 _ hc3 hat3 hs ?_
        rw [HQ4.out]; dsimp only
        intro w4 hc4 hx4
        have hR4 := hR3.ext hx4 (fun e => hgr e.symm)
        have hx4' := hx3.trans hx4 (fun _ _ e => e)
        clear hR3 hx3 hx4 hc3
        go_wp2_with fail
        refine ref06_Take g s a4 e4 65536 _ hc4 hat4 hs (by decide) ?_
        rw [HQ5.out]; dsimp only
        intro w5 hc5 hx5
        have hR5 := hR4.ext hx5 (fun e => hgr e.symm)
        have hx5' := hx4'.trans hx5 (fun _ _ e => e)
        clear hR4 hx4' hx5 hc4
        obtain ⟨c0, c1, c2, f1, f2⟩ := hc5.cells
        go_wp2_with fail
        refine ref04_Take 4 g s a5 e5 _ hc5 hat5 hs ?_
        rw [HQ6.out]; dsimp only
        intro w6 hc6 hx6
        have hR6 := hR5.ext hx6 (fun e => hgr e.symm)
        have hx6' := hx5'.trans hx6 (fun _ _ e => e)
        clear hR5 hx5' hx6 hc5 c0 c1 c2 f1 f2
        have hfr : frT s a e = (if f5S s a e ≠ 0 then (0, 0, ⟨#[]⟩) else (0, kd, p), a6, f5S s a e) := by unfold frT; rw [HM4.out, HM3.out, HM2.out, HM1.out]
        by_cases he6 : e6 = 0
        · subst he6
          have hle0 : (a2 : Int) ≤ (a5 : Int) := by omega
          have hle1 : (a5 : Int) ≤ (s.size : Int) := by omega
          obtain ⟨c0, c1, c2, f1, f2⟩ := hc6.cells
          by_cases hn : n = (crcSum (s.extract a2 a5) : Nat)
          · have h5 : f5S s a e = 0 := by rw [HM5.out, if_neg (fun h => h.2 hn)]
            rw [h5, if_neg (by decide)] at hfr
            rw [hfr] at HR
            clear hfr
            have HN := Lib.hid hn
            have hnb : (n == ((crcSum (s.extract a2 a5) : Nat) : Int)) = true := by simpa using hn
            clear hn
            go_wp2_with fail
            refine fresh_d (fun W => RCur W g s a6 0 ∧ Blk W r 39 #[.int .u8 0, .int .u8 0, .string ⟨#[]⟩] ∧ Ext (· = g) w W) (fun n => ⟨hc6, hR6, hx6'.drewN n⟩) (ref05_Sum _ _ hxz) ?_
            rintro w7 ⟨hc7, hR7, hx7⟩
            clear hc6 hR6 hx6' c0 c1 c2 f1 f2
            obtain ⟨c0, c1, c2, f1, f2⟩ := hc7.cells
            have d0 : w7.cell? ⟨r, 0, none⟩ = some (.int .u8 0) := (Blk.cell hR7 0).trans rfl
            have d1 : w7.cell? ⟨r, 1, none⟩ = some (.int .u8 0) := (Blk.cell hR7 1).trans rfl
            have d2 : w7.cell? ⟨r, 2, none⟩ = some (.string ⟨#[]⟩) := (Blk.cell hR7 2).trans rfl
            have g0 := Blk.frozen hR7 0
            have g1 := Blk.frozen hR7 1
            have g2 := Blk.frozen hR7 2
            go_wp2
            have u1 : Ext (fun b => b = r) w7 _ := ((Ext.self w7 r 0 (.int .u8 0)).setCell (p := ⟨r, 1, none⟩) (fun _ => rfl) (.int .u8 kd)).setCell (p := ⟨r, 2, none⟩) (fun _ => rfl) (.string p)
            exact bodyPost_ret (v := .agg #[.int .u8 0, .int .u8 kd, .string p]) (by simp [results, go_sem, d0, d1, d2]) rfl
              (HR.out _ (Blk.ext hc7 u1 hgr) (hx7.trans u1 (fun b hb e => absurd hb (by rw [e]; exact Nat.not_lt.2 (Nat.le_of_eq HRE.out)))))
          · have h5 : f5S s a e = 12 := by rw [HM5.out, if_pos ⟨rfl, hn⟩]
            rw [h5, if_pos (by decide)] at hfr
            rw [hfr] at HR
            clear hfr
            have hnb : (n == ((crcSum (s.extract a2 a5) : Nat) : Int)) = false := by simpa using hn
            clear hn
            go_wp2_with fail
            refine fresh_d (fun W => RCur W g s a6 0 ∧ Blk W r 39 #[.int .u8 0, .int .u8 0, .string ⟨#[]⟩] ∧ Ext (· = g) w W) (fun n => ⟨hc6, hR6, hx6'.drewN n⟩) (ref05_Sum _ _ hxz) ?_
            rintro w7 ⟨hc7, hR7, hx7⟩
            clear hc6 hR6 hx6' c0 c1 c2 f1 f2
            obtain ⟨c0, c1, c2, f1, f2⟩ := hc7.cells
            have d0 : w7.cell? ⟨r, 0, none⟩ = some (.int .u8 0) := (Blk.cell hR7 0).trans rfl
            have d1 : w7.cell? ⟨r, 1, none⟩ = some (.int .u8 0) := (Blk.cell hR7 1).trans rfl
            have d2 : w7.cell? ⟨r, 2, none⟩ = some (.string ⟨#[]⟩) := (Blk.cell hR7 2).trans rfl
            have g0 := Blk.frozen hR7 0
            have g1 := Blk.frozen hR7 1
            have g2 := Blk.frozen hR7 2
            have hc8 : RCur (w7.setCell ⟨g, 2, none⟩ (.int .i64 12)) g s a6 12 := Blk.set hc7 2 _
            have hx8 : Ext (· = g) w (w7.setCell ⟨g, 2, none⟩ (.int .i64 12)) := hx7.trans (Ext.self w7 g 2 _) (fun _ _ e => e)
            go_wp2
            have u1 : Ext (fun b => b = r) (w7.setCell ⟨g, 2, none⟩ (.int .i64 12)) _ := ((Ext.self (w7.setCell ⟨g, 2, none⟩ (.int .i64 12)) r 0 (.int .u8 0)).setCell (p := ⟨r, 1, none⟩) (fun _ => rfl) (.int .u8 0)).setCell (p := ⟨r, 2, none⟩) (fun _ => rfl) (.string ⟨#[]⟩)
            exact bodyPost_ret (v := .agg #[.int .u8 0, .int .u8 0, .string ⟨#[]⟩]) (by simp [results, go_sem, d0, d1, d2]) rfl
              (HR.out _ (Blk.ext hc8 u1 hgr) (hx8.trans u1 (fun b hb e => absurd hb (by rw [e]; exact Nat.not_lt.2 (Nat.le_of_eq HRE.out)))))
        · have h5 : f5S s a e = e6 := by rw [HM5.out, if_neg (fun h => he6 h.1)]
          have heb : (e6 == 0) = false := by simpa using he6
          rw [h5, if_pos he6] at hfr
          rw [hfr] at HR
          clear hfr
          obtain ⟨c0, c1, c2, f1, f2⟩ := hc6.cells
          have hR7 := hR6
          have d0 : w6.cell? ⟨r, 0, none⟩ = some (.int .u8 0) := (Blk.cell hR7 0).trans rfl
          have d1 : w6.cell? ⟨r, 1, none⟩ = some (.int .u8 0) := (Blk.cell hR7 1).trans rfl
          have d2 : w6.cell? ⟨r, 2, none⟩ = some (.string ⟨#[]⟩) := (Blk.cell hR7 2).trans rfl
          have g0 := Blk.frozen hR7 0
          have g1 := Blk.frozen hR7 1
          have g2 := Blk.frozen hR7 2
          go_wp2
          have u1 : Ext (fun b => b = r) w6 _ := ((Ext.self w6 r 0 (.int .u8 0)).setCell (p := ⟨r, 1, none⟩) (fun _ => rfl) (.int .u8 0)).setCell (p := ⟨r, 2, none⟩) (fun _ => rfl) (.string ⟨#[]⟩)
          exact bodyPost_ret (v := .agg #[.int .u8 0, .int .u8 0, .string ⟨#[]⟩]) (by simp [results, go_sem, d0, d1, d2]) rfl
            (HR.out _ (Blk.ext hc6 u1 hgr) (hx6'.trans u1 (fun b hb e => absurd hb (by rw [e]; exact Nat.not_lt.2 (Nat.le_of_eq HRE.out)))))
    · rw [if_pos ⟨rfl, hb⟩] at hm1
      have hbb : (x1 == 215) = false := by simpa using hb
      have HM0 := Lib.hid hm1
      clear hm1 hb
      have hc4 : RCur (w1.setCell ⟨g, 2, none⟩ (.int .i64 9)) g s a1 9 := Blk.set hc1 2 _
      have hx4 : Ext (· = g) w (w1.setCell ⟨g, 2, none⟩ (.int .i64 9)) := hx1.trans (Ext.self w1 g 2 _) (fun _ _ e => e)
      have hR4 := hR1.ext (Ext.self w1 g 2 (.int .i64 9)) (fun e => hgr e.symm)
      go_wp2_with fail
      have hc1 := hc4
      have hx1 := hx4
      have hR1 := hR4
      clear hc4 hx4 hR4 c0 c1 c2
      obtain ⟨c0, c1, c2⟩ : True ∧ True ∧ True := ⟨trivial, trivial, trivial⟩
      generalize (w1.setCell ⟨g, 2, none⟩ (.int .i64 9)) = w1' at *
      have hne : (9 : Int) ≠ 0 := by decide
      have hm1 := HM0.out
      have hf0 : f0S s a e = (a1, 9) := by
        unfold f0S; rw [hm1]; unfold mgS
        rw [show byteR s a1 9 = (0, a1, 9) from by unfold byteR; rw [if_pos hne]]
        exact congrArg (fun z => (a1, z)) (if_neg (fun h => hne h.1))
      have HF0 := Lib.hid hf0
      have hq : byteR s a1 9 = (0, a1, 9) := by unfold byteR; rw [if_pos hne]
      have HQ := Lib.hid hq
      have hneb : (9 == 0) = false := by first | decide | simpa using hne
      clear hq hm1 hf0
      go_wp2_with fail
      refine ref01_Byte g s a1 9 _ hc1 hat1 hs ?_
      rw [HQ.out]; dsimp only
      intro w2 hc2 hx2
      have hR2 := hR1.ext hx2 (fun e => hgr e.symm)
      have hx2 := hx1.trans hx2 (fun _ _ e => e)
      clear c0 c1 c2 f1 f2 hR1 hx1 hc1
      clear HQ hneb
      obtain ⟨a2, ha2⟩ : ∃ a2 : Nat, a2 = a1 := ⟨_, rfl⟩
      rw [← ha2] at hat1 HF0 hc2
      have hat2 := hat1
      clear ha2 hat1
      have hq : byteR s a2 9 = (0, a2, 9) := by unfold byteR; rw [if_pos hne]
      have HM1 := Lib.hid (show f1S s a e = (0, a2, 9) by unfold f1S; rw [HF0.out]; unfold verS; rw [hq]; exact congrArg (fun z => ((0 : Int), a2, z)) (if_neg (fun h => hne h.1)))
      have HQ := Lib.hid hq
      have hneb : (9 == 0) = false := by first | decide | simpa using hne
      clear hq
      obtain ⟨c0, c1, c2, f1, f2⟩ := hc2.cells
      go_wp2_with fail
      refine ref01_Byte g s a2 9 _ hc2 hat2 hs ?_
      rw [HQ.out]; dsimp only
      intro w3 hc3 hx3
      have hR3 := hR2.ext hx3 (fun e => hgr e.symm)
      have hx3 := hx2.trans hx3 (fun _ _ e => e)
      clear c0 c1 c2 f1 f2 hR2 hx2 hc2
      obtain ⟨c0, c1, c2, f1, f2⟩ := hc3.cells
      obtain ⟨a3, ha3⟩ : ∃ a3 : Nat, a3 = a2 := ⟨_, rfl⟩
      rw [← ha3] at HM1
      rw [← ha3] at hc3
      have hat3 : a3 ≤ s.size := by omega
      clear ha3 HQ
      obtain ⟨kd, a4, e4, hq4⟩ : ∃ kd a4 e4, byteR s a3 9 = (kd, a4, e4) := ⟨_, _, _, rfl⟩
      have hat4 := byteR_at (s := s) (at_ := a3) (err := 9) hat3
      have hkr := byteR_range s a3 9
      have m2 : f2S s a e = (kd, a4, e4) := by unfold f2S; rw [HM1.out]; exact hq4
      rw [hq4] at hat4 hkr
      dsimp only at hat4 hkr
      have hkw : IntKind.u8.wrap kd = kd := by rw [IntKind.wrap_u8]; omega
      obtain ⟨p, a5, e5, hq5⟩ : ∃ p a5 e5, blobR s a4 e4 65536 = (p, a5, e5) := ⟨_, _, _, rfl⟩
      have hat5 := blobR_at (s := s) (a := a4) (e := e4) 65536 hat4
      have m3 : f3S s a e = (p, a5, e5) := by unfold f3S; rw [m2]; exact hq5
      rw [hq5] at hat5
      dsimp only at hat5
      obtain ⟨n, a6, e6, hq6⟩ : ∃ n a6 e6, fixTakeR s a5 e5 4 = (n, a6, e6) := ⟨_, _, _, rfl⟩
      have m4 : f4S s a e = (n, a6, e6) := by unfold f4S; rw [m3]; exact hq6
      have hle := f03_le s a e
      rw [m3, HF0.out] at hle
      dsimp only at hle
      have hat6 := fixTakeR_at (s := s) (at_ := a5) (err := e5) 4 hat5
      rw [hq6] at hat6
      dsimp only at hat6
      have m5 : f5S s a e = if e6 = 0 ∧ n ≠ (crcSum (s.extract a2 a5) : Nat) then 12 else e6 := by unfold f5S; rw [m4, m3, HF0.out]
      have hxz : (s.extract a2 a5).size ≤ 9223372036854775806 := by rw [ByteArray.size_extract]; omega
      have hcl : crcSum (s.extract a2 a5) < 4294967296 := cpl_lt _
      have hwr : IntKind.u64.wrap ((crcSum (s.extract a2 a5) : Nat) : Int) = ((crcSum (s.extract a2 a5) : Nat) : Int) := by rw [IntKind.wrap_u64]; omega
      have HQ4 := Lib.hid hq4
      have HQ5 := Lib.hid hq5
      have HQ6 := Lib.hid hq6
      have HM2 := Lib.hid m2
      have HM3 := Lib.hid m3
      have HM4 := Lib.hid m4
      have HM5 := Lib.hid m5
      clear hq4 hq5 hq6 m2 m3 m4 m5
      go_wp2_with fail
      refine ref01_Byte g s a3 9 _ hc3 hat3 hs ?_
      rw [HQ4.out]; dsimp only
      intro w4 hc4 hx4
      have hR4 := hR3.ext hx4 (fun e => hgr e.symm)
      have hx4' := hx3.trans hx4 (fun _ _ e => e)
      clear hR3 hx3 hx4 hc3
      go_wp2_with fail
      refine ref06_Take g s a4 e4 65536 _ hc4 hat4 hs (by decide) ?_
      rw [HQ5.out]; dsimp only
      intro w5 hc5 hx5
      have hR5 := hR4.ext hx5 (fun e => hgr e.symm)
      have hx5' := hx4'.trans hx5 (fun _ _ e => e)
      clear hR4 hx4' hx5 hc4
      obtain ⟨c0, c1, c2, f1, f2⟩ := hc5.cells
      go_wp2_with fail
      refine ref04_Take 4 g s a5 e5 _ hc5 hat5 hs ?_
      rw [HQ6.out]; dsimp only
      intro w6 hc6 hx6
      have hR6 := hR5.ext hx6 (fun e => hgr e.symm)
      have hx6' := hx5'.trans hx6 (fun _ _ e => e)
      clear hR5 hx5' hx6 hc5 c0 c1 c2 f1 f2
      have hfr : frT s a e = (if f5S s a e ≠ 0 then (0, 0, ⟨#[]⟩) else (0, kd, p), a6, f5S s a e) := by unfold frT; rw [HM4.out, HM3.out, HM2.out, HM1.out]
      by_cases he6 : e6 = 0
      · subst he6
        have hle0 : (a2 : Int) ≤ (a5 : Int) := by omega
        have hle1 : (a5 : Int) ≤ (s.size : Int) := by omega
        obtain ⟨c0, c1, c2, f1, f2⟩ := hc6.cells
        by_cases hn : n = (crcSum (s.extract a2 a5) : Nat)
        · have h5 : f5S s a e = 0 := by rw [HM5.out, if_neg (fun h => h.2 hn)]
          rw [h5, if_neg (by decide)] at hfr
          rw [hfr] at HR
          clear hfr
          have HN := Lib.hid hn
          have hnb : (n == ((crcSum (s.extract a2 a5) : Nat) : Int)) = true := by simpa using hn
          clear hn
          go_wp2_with fail
          refine fresh_d (fun W => RCur W g s a6 0 ∧ Blk W r 39 #[.int .u8 0, .int .u8 0, .string ⟨#[]⟩] ∧ Ext (· = g) w W) (fun n => ⟨hc6, hR6, hx6'.drewN n⟩) (ref05_Sum _ _ hxz) ?_
          rintro w7 ⟨hc7, hR7, hx7⟩
          clear hc6 hR6 hx6' c0 c1 c2 f1 f2
          obtain ⟨c0, c1, c2, f1, f2⟩ := hc7.cells
          have d0 : w7.cell? ⟨r, 0, none⟩ = some (.int .u8 0) := (Blk.cell hR7 0).trans rfl
          have d1 : w7.cell? ⟨r, 1, none⟩ = some (.int .u8 0) := (Blk.cell hR7 1).trans rfl
          have d2 : w7.cell? ⟨r, 2, none⟩ = some (.string ⟨#[]⟩) := (Blk.cell hR7 2).trans rfl
          have g0 := Blk.frozen hR7 0
          have g1 := Blk.frozen hR7 1
          have g2 := Blk.frozen hR7 2
          go_wp2
          have u1 : Ext (fun b => b = r) w7 _ := ((Ext.self w7 r 0 (.int .u8 0)).setCell (p := ⟨r, 1, none⟩) (fun _ => rfl) (.int .u8 kd)).setCell (p := ⟨r, 2, none⟩) (fun _ => rfl) (.string p)
          exact bodyPost_ret (v := .agg #[.int .u8 0, .int .u8 kd, .string p]) (by simp [results, go_sem, d0, d1, d2]) rfl
            (HR.out _ (Blk.ext hc7 u1 hgr) (hx7.trans u1 (fun b hb e => absurd hb (by rw [e]; exact Nat.not_lt.2 (Nat.le_of_eq HRE.out)))))
        · have h5 : f5S s a e = 12 := by rw [HM5.out, if_pos ⟨rfl, hn⟩]
          rw [h5, if_pos (by decide)] at hfr
          rw [hfr] at HR
          clear hfr
          have hnb : (n == ((crcSum (s.extract a2 a5) : Nat) : Int)) = false := by simpa using hn
          clear hn
          go_wp2_with fail
          refine fresh_d (fun W => RCur W g s a6 0 ∧ Blk W r 39 #[.int .u8 0, .int .u8 0, .string ⟨#[]⟩] ∧ Ext (· = g) w W) (fun n => ⟨hc6, hR6, hx6'.drewN n⟩) (ref05_Sum _ _ hxz) ?_
          rintro w7 ⟨hc7, hR7, hx7⟩
          clear hc6 hR6 hx6' c0 c1 c2 f1 f2
          obtain ⟨c0, c1, c2, f1, f2⟩ := hc7.cells
          have d0 : w7.cell? ⟨r, 0, none⟩ = some (.int .u8 0) := (Blk.cell hR7 0).trans rfl
          have d1 : w7.cell? ⟨r, 1, none⟩ = some (.int .u8 0) := (Blk.cell hR7 1).trans rfl
          have d2 : w7.cell? ⟨r, 2, none⟩ = some (.string ⟨#[]⟩) := (Blk.cell hR7 2).trans rfl
          have g0 := Blk.frozen hR7 0
          have g1 := Blk.frozen hR7 1
          have g2 := Blk.frozen hR7 2
          have hc8 : RCur (w7.setCell ⟨g, 2, none⟩ (.int .i64 12)) g s a6 12 := Blk.set hc7 2 _
          have hx8 : Ext (· = g) w (w7.setCell ⟨g, 2, none⟩ (.int .i64 12)) := hx7.trans (Ext.self w7 g 2 _) (fun _ _ e => e)
          go_wp2
          have u1 : Ext (fun b => b = r) (w7.setCell ⟨g, 2, none⟩ (.int .i64 12)) _ := ((Ext.self (w7.setCell ⟨g, 2, none⟩ (.int .i64 12)) r 0 (.int .u8 0)).setCell (p := ⟨r, 1, none⟩) (fun _ => rfl) (.int .u8 0)).setCell (p := ⟨r, 2, none⟩) (fun _ => rfl) (.string ⟨#[]⟩)
          exact bodyPost_ret (v := .agg #[.int .u8 0, .int .u8 0, .string ⟨#[]⟩]) (by simp [results, go_sem, d0, d1, d2]) rfl
            (HR.out _ (Blk.ext hc8 u1 hgr) (hx8.trans u1 (fun b hb e => absurd hb (by rw [e]; exact Nat.not_lt.2 (Nat.le_of_eq HRE.out)))))
      · have h5 : f5S s a e = e6 := by rw [HM5.out, if_neg (fun h => he6 h.1)]
        have heb : (e6 == 0) = false := by simpa using he6
        rw [h5, if_pos he6] at hfr
        rw [hfr] at HR
        clear hfr
        obtain ⟨c0, c1, c2, f1, f2⟩ := hc6.cells
        have hR7 := hR6
        have d0 : w6.cell? ⟨r, 0, none⟩ = some (.int .u8 0) := (Blk.cell hR7 0).trans rfl
        have d1 : w6.cell? ⟨r, 1, none⟩ = some (.int .u8 0) := (Blk.cell hR7 1).trans rfl
        have d2 : w6.cell? ⟨r, 2, none⟩ = some (.string ⟨#[]⟩) := (Blk.cell hR7 2).trans rfl
        have g0 := Blk.frozen hR7 0
        have g1 := Blk.frozen hR7 1
        have g2 := Blk.frozen hR7 2
        go_wp2
        have u1 : Ext (fun b => b = r) w6 _ := ((Ext.self w6 r 0 (.int .u8 0)).setCell (p := ⟨r, 1, none⟩) (fun _ => rfl) (.int .u8 0)).setCell (p := ⟨r, 2, none⟩) (fun _ => rfl) (.string ⟨#[]⟩)
        exact bodyPost_ret (v := .agg #[.int .u8 0, .int .u8 0, .string ⟨#[]⟩]) (by simp [results, go_sem, d0, d1, d2]) rfl
          (HR.out _ (Blk.ext hc6 u1 hgr) (hx6'.trans u1 (fun b hb e => absurd hb (by rw [e]; exact Nat.not_lt.2 (Nat.le_of_eq HRE.out)))))
  · rw [if_neg (fun h => he1 h.1)] at hm1
    have hne := he1
    have hf0 : f0S s a e = (a1, e1) := by
      unfold f0S; rw [hm1]; unfold mgS
      rw [show byteR s a1 e1 = (0, a1, e1) from by unfold byteR; rw [if_pos hne]]
      exact congrArg (fun z => (a1, z)) (if_neg (fun h => hne h.1))
    have HF0 := Lib.hid hf0
    have hq : byteR s a1 e1 = (0, a1, e1) := by unfold byteR; rw [if_pos hne]
    have HQ := Lib.hid hq
    have hneb : (e1 == 0) = false := by first | decide | simpa using hne
    clear hq hm1 hf0
    go_wp2_with fail
    refine ref01_Byte g s a1 e1 _ hc1 hat1 hs ?_
    rw [HQ.out]; dsimp only
    intro w2 hc2 hx2
    have hR2 := hR1.ext hx2 (fun e => hgr e.symm)
    have hx2 := hx1.trans hx2 (fun _ _ e => e)
    clear c0 c1 c2 f1 f2 hR1 hx1 hc1
    clear HQ hneb
    obtain ⟨a2, ha2⟩ : ∃ a2 : Nat, a2 = a1 := ⟨_, rfl⟩
    rw [← ha2] at hat1 HF0 hc2
    have hat2 := hat1
    clear ha2 hat1
    have hq : byteR s a2 e1 = (0, a2, e1) := by unfold byteR; rw [if_pos hne]
    have HM1 := Lib.hid (show f1S s a e = (0, a2, e1) by unfold f1S; rw [HF0.out]; unfold verS; rw [hq]; exact congrArg (fun z => ((0 : Int), a2, z)) (if_neg (fun h => hne h.1)))
    have HQ := Lib.hid hq
    have hneb : (e1 == 0) = false := by first | decide | simpa using hne
    clear hq
    obtain ⟨c0, c1, c2, f1, f2⟩ := hc2.cells
    go_wp2_with fail
    refine ref01_Byte g s a2 e1 _ hc2 hat2 hs ?_
    rw [HQ.out]; dsimp only
    intro w3 hc3 hx3
    have hR3 := hR2.ext hx3 (fun e => hgr e.symm)
    have hx3 := hx2.trans hx3 (fun _ _ e => e)
    clear c0 c1 c2 f1 f2 hR2 hx2 hc2
    obtain ⟨c0, c1, c2, f1, f2⟩ := hc3.cells
    obtain ⟨a3, ha3⟩ : ∃ a3 : Nat, a3 = a2 := ⟨_, rfl⟩
    rw [← ha3] at HM1
    rw [← ha3] at hc3
    have hat3 : a3 ≤ s.size := by omega
    clear ha3 HQ
    obtain ⟨kd, a4, e4, hq4⟩ : ∃ kd a4 e4, byteR s a3 e1 = (kd, a4, e4) := ⟨_, _, _, rfl⟩
    have hat4 := byteR_at (s := s) (at_ := a3) (err := e1) hat3
    have hkr := byteR_range s a3 e1
    have m2 : f2S s a e = (kd, a4, e4) := by unfold f2S; rw [HM1.out]; exact hq4
    rw [hq4] at hat4 hkr
    dsimp only at hat4 hkr
    have hkw : IntKind.u8.wrap kd = kd := by rw [IntKind.wrap_u8]; omega
    obtain ⟨p, a5, e5, hq5⟩ : ∃ p a5 e5, blobR s a4 e4 65536 = (p, a5, e5) := ⟨_, _, _, rfl⟩
    have hat5 := blobR_at (s := s) (a := a4) (e := e4) 65536 hat4
    have m3 : f3S s a e = (p, a5, e5) := by unfold f3S; rw [m2]; exact hq5
    rw [hq5] at hat5
    dsimp only at hat5
    obtain ⟨n, a6, e6, hq6⟩ : ∃ n a6 e6, fixTakeR s a5 e5 4 = (n, a6, e6) := ⟨_, _, _, rfl⟩
    have m4 : f4S s a e = (n, a6, e6) := by unfold f4S; rw [m3]; exact hq6
    have hle := f03_le s a e
    rw [m3, HF0.out] at hle
    dsimp only at hle
    have hat6 := fixTakeR_at (s := s) (at_ := a5) (err := e5) 4 hat5
    rw [hq6] at hat6
    dsimp only at hat6
    have m5 : f5S s a e = if e6 = 0 ∧ n ≠ (crcSum (s.extract a2 a5) : Nat) then 12 else e6 := by unfold f5S; rw [m4, m3, HF0.out]
    have hxz : (s.extract a2 a5).size ≤ 9223372036854775806 := by rw [ByteArray.size_extract]; omega
    have hcl : crcSum (s.extract a2 a5) < 4294967296 := cpl_lt _
    have hwr : IntKind.u64.wrap ((crcSum (s.extract a2 a5) : Nat) : Int) = ((crcSum (s.extract a2 a5) : Nat) : Int) := by rw [IntKind.wrap_u64]; omega
    have HQ4 := Lib.hid hq4
    have HQ5 := Lib.hid hq5
    have HQ6 := Lib.hid hq6
    have HM2 := Lib.hid m2
    have HM3 := Lib.hid m3
    have HM4 := Lib.hid m4
    have HM5 := Lib.hid m5
    clear hq4 hq5 hq6 m2 m3 m4 m5
    go_wp2_with fail
    refine ref01_Byte g s a3 e1 _ hc3 hat3 hs ?_
    rw [HQ4.out]; dsimp only
    intro w4 hc4 hx4
    have hR4 := hR3.ext hx4 (fun e => hgr e.symm)
    have hx4' := hx3.trans hx4 (fun _ _ e => e)
    clear hR3 hx3 hx4 hc3
    go_wp2_with fail
    refine ref06_Take g s a4 e4 65536 _ hc4 hat4 hs (by decide) ?_
    rw [HQ5.out]; dsimp only
    intro w5 hc5 hx5
    have hR5 := hR4.ext hx5 (fun e => hgr e.symm)
    have hx5' := hx4'.trans hx5 (fun _ _ e => e)
    clear hR4 hx4' hx5 hc4
    obtain ⟨c0, c1, c2, f1, f2⟩ := hc5.cells
    go_wp2_with fail
    refine ref04_Take 4 g s a5 e5 _ hc5 hat5 hs ?_
    rw [HQ6.out]; dsimp only
    intro w6 hc6 hx6
    have hR6 := hR5.ext hx6 (fun e => hgr e.symm)
    have hx6' := hx5'.trans hx6 (fun _ _ e => e)
    clear hR5 hx5' hx6 hc5 c0 c1 c2 f1 f2
    have hfr : frT s a e = (if f5S s a e ≠ 0 then (0, 0, ⟨#[]⟩) else (0, kd, p), a6, f5S s a e) := by unfold frT; rw [HM4.out, HM3.out, HM2.out, HM1.out]
    by_cases he6 : e6 = 0
    · subst he6
      have hle0 : (a2 : Int) ≤ (a5 : Int) := by omega
      have hle1 : (a5 : Int) ≤ (s.size : Int) := by omega
      obtain ⟨c0, c1, c2, f1, f2⟩ := hc6.cells
      by_cases hn : n = (crcSum (s.extract a2 a5) : Nat)
      · have h5 : f5S s a e = 0 := by rw [HM5.out, if_neg (fun h => h.2 hn)]
        rw [h5, if_neg (by decide)] at hfr
        rw [hfr] at HR
        clear hfr
        have HN := Lib.hid hn
        have hnb : (n == ((crcSum (s.extract a2 a5) : Nat) : Int)) = true := by simpa using hn
        clear hn
        go_wp2_with fail
        refine fresh_d (fun W => RCur W g s a6 0 ∧ Blk W r 39 #[.int .u8 0, .int .u8 0, .string ⟨#[]⟩] ∧ Ext (· = g) w W) (fun n => ⟨hc6, hR6, hx6'.drewN n⟩) (ref05_Sum _ _ hxz) ?_
        rintro w7 ⟨hc7, hR7, hx7⟩
        clear hc6 hR6 hx6' c0 c1 c2 f1 f2
        obtain ⟨c0, c1, c2, f1, f2⟩ := hc7.cells
        have d0 : w7.cell? ⟨r, 0, none⟩ = some (.int .u8 0) := (Blk.cell hR7 0).trans rfl
        have d1 : w7.cell? ⟨r, 1, none⟩ = some (.int .u8 0) := (Blk.cell hR7 1).trans rfl
        have d2 : w7.cell? ⟨r, 2, none⟩ = some (.string ⟨#[]⟩) := (Blk.cell hR7 2).trans rfl
        have g0 := Blk.frozen hR7 0
        have g1 := Blk.frozen hR7 1
        have g2 := Blk.frozen hR7 2
        go_wp2
        have u1 : Ext (fun b => b = r) w7 _ := ((Ext.self w7 r 0 (.int .u8 0)).setCell (p := ⟨r, 1, none⟩) (fun _ => rfl) (.int .u8 kd)).setCell (p := ⟨r, 2, none⟩) (fun _ => rfl) (.string p)
        exact bodyPost_ret (v := .agg #[.int .u8 0, .int .u8 kd, .string p]) (by simp [results, go_sem, d0, d1, d2]) rfl
          (HR.out _ (Blk.ext hc7 u1 hgr) (hx7.trans u1 (fun b hb e => absurd hb (by rw [e]; exact Nat.not_lt.2 (Nat.le_of_eq HRE.out)))))
      · have h5 : f5S s a e = 12 := by rw [HM5.out, if_pos ⟨rfl, hn⟩]
        rw [h5, if_pos (by decide)] at hfr
        rw [hfr] at HR
        clear hfr
        have hnb : (n == ((crcSum (s.extract a2 a5) : Nat) : Int)) = false := by simpa using hn
        clear hn
        go_wp2_with fail
        refine fresh_d (fun W => RCur W g s a6 0 ∧ Blk W r 39 #[.int .u8 0, .int .u8 0, .string ⟨#[]⟩] ∧ Ext (· = g) w W) (fun n => ⟨hc6, hR6, hx6'.drewN n⟩) (ref05_Sum _ _ hxz) ?_
        rintro w7 ⟨hc7, hR7, hx7⟩
        clear hc6 hR6 hx6' c0 c1 c2 f1 f2
        obtain ⟨c0, c1, c2, f1, f2⟩ := hc7.cells
        have d0 : w7.cell? ⟨r, 0, none⟩ = some (.int .u8 0) := (Blk.cell hR7 0).trans rfl
        have d1 : w7.cell? ⟨r, 1, none⟩ = some (.int .u8 0) := (Blk.cell hR7 1).trans rfl
        have d2 : w7.cell? ⟨r, 2, none⟩ = some (.string ⟨#[]⟩) := (Blk.cell hR7 2).trans rfl
        have g0 := Blk.frozen hR7 0
        have g1 := Blk.frozen hR7 1
        have g2 := Blk.frozen hR7 2
        have hc8 : RCur (w7.setCell ⟨g, 2, none⟩ (.int .i64 12)) g s a6 12 := Blk.set hc7 2 _
        have hx8 : Ext (· = g) w (w7.setCell ⟨g, 2, none⟩ (.int .i64 12)) := hx7.trans (Ext.self w7 g 2 _) (fun _ _ e => e)
        go_wp2
        have u1 : Ext (fun b => b = r) (w7.setCell ⟨g, 2, none⟩ (.int .i64 12)) _ := ((Ext.self (w7.setCell ⟨g, 2, none⟩ (.int .i64 12)) r 0 (.int .u8 0)).setCell (p := ⟨r, 1, none⟩) (fun _ => rfl) (.int .u8 0)).setCell (p := ⟨r, 2, none⟩) (fun _ => rfl) (.string ⟨#[]⟩)
        exact bodyPost_ret (v := .agg #[.int .u8 0, .int .u8 0, .string ⟨#[]⟩]) (by simp [results, go_sem, d0, d1, d2]) rfl
          (HR.out _ (Blk.ext hc8 u1 hgr) (hx8.trans u1 (fun b hb e => absurd hb (by rw [e]; exact Nat.not_lt.2 (Nat.le_of_eq HRE.out)))))
    · have h5 : f5S s a e = e6 := by rw [HM5.out, if_neg (fun h => he6 h.1)]
      have heb : (e6 == 0) = false := by simpa using he6
      rw [h5, if_pos he6] at hfr
      rw [hfr] at HR
      clear hfr
      obtain ⟨c0, c1, c2, f1, f2⟩ := hc6.cells
      have hR7 := hR6
      have d0 : w6.cell? ⟨r, 0, none⟩ = some (.int .u8 0) := (Blk.cell hR7 0).trans rfl
      have d1 : w6.cell? ⟨r, 1, none⟩ = some (.int .u8 0) := (Blk.cell hR7 1).trans rfl
      have d2 : w6.cell? ⟨r, 2, none⟩ = some (.string ⟨#[]⟩) := (Blk.cell hR7 2).trans rfl
      have g0 := Blk.frozen hR7 0
      have g1 := Blk.frozen hR7 1
      have g2 := Blk.frozen hR7 2
      go_wp2
      have u1 : Ext (fun b => b = r) w6 _ := ((Ext.self w6 r 0 (.int .u8 0)).setCell (p := ⟨r, 1, none⟩) (fun _ => rfl) (.int .u8 0)).setCell (p := ⟨r, 2, none⟩) (fun _ => rfl) (.string ⟨#[]⟩)
      exact bodyPost_ret (v := .agg #[.int .u8 0, .int .u8 0, .string ⟨#[]⟩]) (by simp [results, go_sem, d0, d1, d2]) rfl
        (HR.out _ (Blk.ext hc6 u1 hgr) (hx6'.trans u1 (fun b hb e => absurd hb (by rw [e]; exact Nat.not_lt.2 (Nat.le_of_eq HRE.out)))))
end Go.Proofs.Ytkicaiecmipieaa
