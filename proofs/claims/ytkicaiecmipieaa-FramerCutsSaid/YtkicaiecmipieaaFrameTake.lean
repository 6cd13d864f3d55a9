/- frame.Take, Decode. -/
import Derived.Test.YtkicaiecmipieaaFrame
import Derived.Test.YtkicaiecmipieaaFrameMath
namespace Go.Proofs.Ytkicaiecmipieaa
open Go.RowKit Go.Lib

def MagRel (W : World) (g : Nat) (s : ByteArray) (a : Nat) (e : Int) (i : Value) (w : World) : Prop :=
  ∃ (k a1 : Nat) (e1 : Int), k ≤ 2 ∧ i = .int .i64 (k : Int) ∧ ((k = 0 ∧ (a1, e1) = (a, e)) ∨ (k = 1 ∧ (a1, e1) = mgS s a e 215) ∨ (k = 2 ∧ (a1, e1) = f0S s a e)) ∧ a1 ≤ s.size ∧ Cur w g s a1 e1 ∧ Ext (· = g) W w

set_option maxHeartbeats 4000000 in
set_option maxRecDepth 100000 in
theorem frame_Take (P : Option Addr) (Z : Option Nat) (g : Nat) (s : ByteArray) (a : Nat) (e : Int) (w : World) (h : Cur w g s a e) (hcd : Cd w P Z) (hpg : ∀ x, P = some x → x.block ≠ g) (hzg : ∀ z, Z = some z → z ≠ g)
    (ha : a ≤ s.size) (hs : s.size ≤ 9223372036854775806) {R : Ending → World → Prop}
    (hR : ∀ w', Cur w' g s (frT s a e).2.1 (frT s a e).2.2 → Cd w' P Z → Ext (fun b => b = g ∨ Z = some b) w w' → R (.returned (.agg #[.int .u8 (frT s a e).1.1, .int .u8 (frT s a e).1.2.1, .string (frT s a e).1.2.2])) w') :
    Calls Try.prog 33 #[.pointer P, .pointer (some ⟨g, 0, none⟩)] w R := by
  have HR := Lib.hid hR
  have hs' : s.size ≤ 9223372036854775807 := by omega
  have hs6 := hs
  clear hR hs
  have hs := hs'
  clear hs'
  go_enter Try.func33, Try.ntmps33
  go_wp2_with fail
  have hc0 : Cur (w.alloc (.cells #[.int .u8 0, .int .u8 0, .string ⟨#[]⟩] 39)) g s a e := Blk.alloc h _
  have hR0 : Blk (w.alloc (.cells #[.int .u8 0, .int .u8 0, .string ⟨#[]⟩] 39)) w.heap.size 39 #[.int .u8 0, .int .u8 0, .string ⟨#[]⟩] := Blk.new _ _ _
  have hx0 : Ext (fun b => b = g ∨ Z = some b) w (w.alloc (.cells #[.int .u8 0, .int .u8 0, .string ⟨#[]⟩] 39)) := (Ext.refl _ _).alloc _
  have hcd0 : Cd (w.alloc (.cells #[.int .u8 0, .int .u8 0, .string ⟨#[]⟩] 39)) P Z := hcd.ext (S := fun _ => False) ((Ext.refl _ _).alloc _) (fun _ _ h => h) (fun _ _ h => h)
  have hgr : g ≠ w.heap.size := Nat.ne_of_lt (Blk.lt h)
  have hpr : ∀ x, P = some x → x.block ≠ w.heap.size := fun x e => Nat.ne_of_lt (hcd.lt.1 x e)
  have hzr : ∀ z, Z = some z → z ≠ w.heap.size := fun z e => Nat.ne_of_lt (hcd.lt.2 z e)
  have hgl : g < w.heap.size := Blk.lt h
  generalize (w.alloc (.cells #[.int .u8 0, .int .u8 0, .string ⟨#[]⟩] 39)) = w0 at *
  obtain ⟨r, hr⟩ : ∃ r, w.heap.size = r := ⟨_, rfl⟩
  rw [hr] at hR0 hgr hpr hzr hgl
  have HRE := Lib.hid hr
  rw [hr]
  clear hr h hcd
  have hm0 : (((⟨#[215, 78]⟩ : ByteArray)[0]'(by decide)).toNat : Int) = 215 := rfl
  have hm1 : (((⟨#[215, 78]⟩ : ByteArray)[1]'(by decide)).toNat : Int) = 78 := rfl
  go_loopw [10] (MagRel w0 g s a e) (fun i _ => 2 - (RowKit.intOf i).toNat)
  case atStart => exact ⟨0, a, e, by decide, rfl, .inl ⟨rfl, rfl⟩, ha, hc0, .refl _ _⟩
  case round =>
    obtain ⟨k, a1, e1, hk, rfl, hst, hat, hcur, hx⟩ := hrel
    rcases hst with ⟨rfl, hst⟩ | ⟨rfl, hst⟩ | ⟨rfl, hst⟩
    · injection hst with h1 h2
      subst h1
      subst h2
      obtain ⟨b, a2, e2, hq⟩ : ∃ b a2 e2, byteR s a1 e1 = (b, a2, e2) := ⟨_, _, _, rfl⟩
      have hat2 := byteR_at (s := s) (at_ := a1) (err := e1) hat
      have hm : mgS s a1 e1 215 = (a2, if e2 = 0 ∧ b ≠ 215 then 9 else e2) := by unfold mgS; rw [hq]
      rw [hq] at hat2
      dsimp only at hat2
      have HQ := Lib.hid hq
      clear hq
      by_cases he2 : e2 = 0
      · subst he2
        by_cases hb : b = 215
        · subst hb
          rw [if_neg (fun h => h.2 rfl)] at hm
          have HM := Lib.hid hm
          clear hm
          go_wp2_with fail
          refine cursor_Byte g s a1 e1 _ hcur hat hs ?_
          rw [HQ.out]; dsimp only
          intro w2 hc2 hx2
          go_wp2_with fail
          refine (cursor_Err g s a2 0 _ hc2).mono ?_
          rintro x w' ⟨rfl, rfl⟩
          go_wp2
          go_roundw
          case rel => exact ⟨1, a2, 0, by decide, by first | rfl | go_num, .inr (.inl ⟨rfl, HM.out.symm⟩), hat2, hc2, hx.trans hx2 (fun _ _ e => e)⟩
          case measure => simp [RowKit.intOf]
        · rw [if_pos ⟨rfl, hb⟩] at hm
          have HM := Lib.hid hm
          have hbb : (b == 215) = false := by simpa using hb
          clear hm
          go_wp2_with fail
          refine cursor_Byte g s a1 e1 _ hcur hat hs ?_
          rw [HQ.out]; dsimp only
          intro w2 hc2 hx2
          go_wp2_with fail
          refine (cursor_Err g s a2 0 _ hc2).mono ?_
          rintro x w' ⟨rfl, rfl⟩
          go_wp2_with fail
          refine cursor_Fail g s a2 0 9 _ hc2 ?_
          intro w3 hc3 hx3
          go_wp2
          go_roundw
          case rel => exact ⟨1, a2, 9, by decide, by first | rfl | go_num, .inr (.inl ⟨rfl, HM.out.symm⟩), hat2, by simpa using hc3, (hx.trans hx2 (fun _ _ e => e)).trans hx3 (fun _ _ e => e)⟩
          case measure => simp [RowKit.intOf]
      · rw [if_neg (fun h => he2 h.1)] at hm
        have HM := Lib.hid hm
        have hbe : (e2 == 0) = false := by simpa using he2
        clear hm
        go_wp2_with fail
        refine cursor_Byte g s a1 e1 _ hcur hat hs ?_
        rw [HQ.out]; dsimp only
        intro w2 hc2 hx2
        go_wp2_with fail
        refine (cursor_Err g s a2 e2 _ hc2).mono ?_
        rintro x w' ⟨rfl, rfl⟩
        go_wp2
        go_roundw
        case rel => exact ⟨1, a2, e2, by decide, by first | rfl | go_num, .inr (.inl ⟨rfl, HM.out.symm⟩), hat2, hc2, hx.trans hx2 (fun _ _ e => e)⟩
        case measure => simp [RowKit.intOf]
    · have hf0 : f0S s a e = mgS s a1 e1 78 := by unfold f0S; rw [← hst]
      have HF0 := Lib.hid hf0
      clear hf0 hst
      obtain ⟨b, a2, e2, hq⟩ : ∃ b a2 e2, byteR s a1 e1 = (b, a2, e2) := ⟨_, _, _, rfl⟩
      have hat2 := byteR_at (s := s) (at_ := a1) (err := e1) hat
      have hm : mgS s a1 e1 78 = (a2, if e2 = 0 ∧ b ≠ 78 then 9 else e2) := by unfold mgS; rw [hq]
      rw [hq] at hat2
      dsimp only at hat2
      have HQ := Lib.hid hq
      clear hq
      by_cases he2 : e2 = 0
      · subst he2
        by_cases hb : b = 78
        · subst hb
          rw [if_neg (fun h => h.2 rfl)] at hm
          have HM := Lib.hid hm
          clear hm
          go_wp2_with fail
          refine cursor_Byte g s a1 e1 _ hcur hat hs ?_
          rw [HQ.out]; dsimp only
          intro w2 hc2 hx2
          go_wp2_with fail
          refine (cursor_Err g s a2 0 _ hc2).mono ?_
          rintro x w' ⟨rfl, rfl⟩
          go_wp2
          go_roundw
          case rel => exact ⟨2, a2, 0, by decide, by first | rfl | go_num, .inr (.inr ⟨rfl, by rw [HF0.out, HM.out]⟩), hat2, hc2, hx.trans hx2 (fun _ _ e => e)⟩
          case measure => simp [RowKit.intOf]
        · rw [if_pos ⟨rfl, hb⟩] at hm
          have HM := Lib.hid hm
          have hbb : (b == 78) = false := by simpa using hb
          clear hm
          go_wp2_with fail
          refine cursor_Byte g s a1 e1 _ hcur hat hs ?_
          rw [HQ.out]; dsimp only
          intro w2 hc2 hx2
          go_wp2_with fail
          refine (cursor_Err g s a2 0 _ hc2).mono ?_
          rintro x w' ⟨rfl, rfl⟩
          go_wp2_with fail
          refine cursor_Fail g s a2 0 9 _ hc2 ?_
          intro w3 hc3 hx3
          go_wp2
          go_roundw
          case rel => exact ⟨2, a2, 9, by decide, by first | rfl | go_num, .inr (.inr ⟨rfl, by rw [HF0.out, HM.out]⟩), hat2, by simpa using hc3, (hx.trans hx2 (fun _ _ e => e)).trans hx3 (fun _ _ e => e)⟩
          case measure => simp [RowKit.intOf]
      · rw [if_neg (fun h => he2 h.1)] at hm
        have HM := Lib.hid hm
        have hbe : (e2 == 0) = false := by simpa using he2
        clear hm
        go_wp2_with fail
        refine cursor_Byte g s a1 e1 _ hcur hat hs ?_
        rw [HQ.out]; dsimp only
        intro w2 hc2 hx2
        go_wp2_with fail
        refine (cursor_Err g s a2 e2 _ hc2).mono ?_
        rintro x w' ⟨rfl, rfl⟩
        go_wp2
        go_roundw
        case rel => exact ⟨2, a2, e2, by decide, by first | rfl | go_num, .inr (.inr ⟨rfl, by rw [HF0.out, HM.out]⟩), hat2, hc2, hx.trans hx2 (fun _ _ e => e)⟩
        case measure => simp [RowKit.intOf]
    · have HF0 := Lib.hid hst.symm
      clear hst hm0 hm1
      have hR1 := hR0.ext hx (fun e => hgr e.symm)
      have hcd1 := hcd0.ext hx (fun x e e' => hpg x e e') (fun z e e' => hzg z e e')
      have hx1 := hx0.trans (S' := fun b => b = g ∨ Z = some b) (hx.mono (fun b _ e => .inl e)) (fun _ _ e => e)
      clear hR0 hcd0 hx0 hx hc0
      obtain ⟨a2, rfl⟩ : ∃ a2, a2 = a1 := ⟨_, rfl⟩
      go_wp2_with fail
      refine (cursor_At g s a2 e1 _ hcur).mono ?_
      rintro x w' ⟨rfl, rfl⟩
      obtain ⟨v, a3, e3r, hq⟩ : ∃ v a3 e3r, byteR s a2 e1 = (v, a3, e3r) := ⟨_, _, _, rfl⟩
      have hat3 := byteR_at (s := s) (at_ := a2) (err := e1) hat
      have hm1 : f1S s a e = (v, a3, if e3r = 0 ∧ ¬ (v = 1 ∨ v = 2) then 10 else e3r) := by unfold f1S; rw [HF0.out]; unfold verS; rw [hq]
      rw [hq] at hat3
      dsimp only at hat3
      have HQ := Lib.hid hq
      clear hq
      go_wp2_with fail
      have hF2 : Blk (wr.alloc (.cells #[.int .u8 0, .int .u8 0, .string ⟨#[]⟩] 39)) wr.heap.size 39 #[.int .u8 0, .int .u8 0, .string ⟨#[]⟩] := Blk.new _ _ _
      have hc2 : Cur (wr.alloc (.cells #[.int .u8 0, .int .u8 0, .string ⟨#[]⟩] 39)) g s a2 e1 := Blk.alloc hcur _
      have hR2 := hR1.alloc (.cells #[.int .u8 0, .int .u8 0, .string ⟨#[]⟩] 39)
      have hcd2 : Cd (wr.alloc (.cells #[.int .u8 0, .int .u8 0, .string ⟨#[]⟩] 39)) P Z := hcd1.ext (S := fun _ => False) ((Ext.refl _ _).alloc _) (fun _ _ h => h) (fun _ _ h => h)
      have hx2 := hx1.alloc (.cells #[.int .u8 0, .int .u8 0, .string ⟨#[]⟩] 39)
      have hgF : g ≠ wr.heap.size := Nat.ne_of_lt (Blk.lt hcur)
      have hrF : r ≠ wr.heap.size := Nat.ne_of_lt (Blk.lt hR1)
      have hpF : ∀ x, P = some x → x.block ≠ wr.heap.size := fun x e => Nat.ne_of_lt (hcd1.lt.1 x e)
      have hzF : ∀ z, Z = some z → z ≠ wr.heap.size := fun z e => Nat.ne_of_lt (hcd1.lt.2 z e)
      have hFl : w.heap.size ≤ wr.heap.size := hx1.size
      generalize (wr.alloc (.cells #[.int .u8 0, .int .u8 0, .string ⟨#[]⟩] 39)) = w2 at *
      generalize wr.heap.size = F at *
      clear hR1 hcd1 hx1 hcur
      refine cursor_Byte g s a2 e1 _ hc2 hat hs ?_
      rw [HQ.out]; dsimp only
      intro w3 hc3 hx3
      have hF3 := hF2.ext hx3 (fun e => hgF e.symm)
      have hR3 := hR2.ext hx3 (fun e => hgr e.symm)
      have hcd3 := hcd2.ext hx3 (fun x e e' => hpg x e e') (fun z e e' => hzg z e e')
      have hx3' := hx2.trans (S' := fun b => b = g ∨ Z = some b) (hx3.mono (fun b _ e => .inl e)) (fun _ _ e => e)
      have q1 := Blk.frozen hF3 0
      have k1 : w3.cell? ⟨F, 0, none⟩ = some (.int .u8 0) := (Blk.cell hF3 0).trans rfl
      clear hF2 hR2 hcd2 hx2 hc2 hx3
      have hF3' : Blk (w3.setCell ⟨F, 0, none⟩ (.int .u8 v)) F 39 #[.int .u8 v, .int .u8 0, .string ⟨#[]⟩] := Blk.set hF3 0 _
      have hc3' : Cur (w3.setCell ⟨F, 0, none⟩ (.int .u8 v)) g s a3 e3r := Blk.far hc3 (p := ⟨F, 0, none⟩) hgF _
      have hR3' := Blk.far hR3 (p := ⟨F, 0, none⟩) hrF (.int .u8 v)
      have hx3'' := hx3'.setCell (p := ⟨F, 0, none⟩) (fun hlt => absurd hlt (Nat.not_lt.2 hFl)) (.int .u8 v)
      have hcd3' := hcd3.ext (S := (· = F)) (Ext.self _ F 0 (.int .u8 v)) (fun x e e' => hpF x e e') (fun z e e' => hzF z e e')
      clear hF3 hR3 hcd3 hx3' hc3
      by_cases he : e3r = 0
      · subst he
        by_cases hv : v = 1 ∨ v = 2
        · rw [if_neg (fun h => h.2 hv)] at hm1
          have HM1 := Lib.hid hm1
          have HV := Lib.hid (decide_eq_true hv)
          clear hm1 hv
          go_wp2_with fail
          generalize (w3.setCell ⟨F, 0, none⟩ (.int .u8 v)) = w3' at *
          refine (cursor_Err g s a3 0 _ hc3').mono ?_
          rintro x w' ⟨rfl, rfl⟩
          have k0 : w3'.cell? ⟨F, 0, none⟩ = some (.int .u8 v) := (Blk.cell hF3' 0).trans rfl
          go_wp2_with fail
          refine (frame_version v _).mono ?_
          rw [HV.out]
          rintro x w' ⟨rfl, rfl⟩
          clear k0 k1 q1
          have hF3 := hF3'
          have hc3 := hc3'
          have hR3 := hR3'
          have hx3 := hx3''
          have hcd3 := hcd3'
          clear hF3' hc3' hR3' hx3'' hcd3'
          obtain ⟨kd, a4, e4, hq4⟩ : ∃ kd a4 e4, byteR s a3 0 = (kd, a4, e4) := ⟨_, _, _, rfl⟩
          have hat4 := byteR_at (s := s) (at_ := a3) (err := 0) hat3
          have m2 : f2S s a e = (kd, a4, e4) := by unfold f2S; rw [HM1.out]; exact hq4
          rw [hq4] at hat4
          dsimp only at hat4
          obtain ⟨p, a5, e5, hq5⟩ : ∃ p a5 e5, blobR s a4 e4 65536 = (p, a5, e5) := ⟨_, _, _, rfl⟩
          have hat5 := blobR_at (s := s) (a := a4) (e := e4) 65536 hat4
          have m3 : f3S s a e = (p, a5, e5) := by unfold f3S; rw [m2]; exact hq5
          rw [hq5] at hat5
          dsimp only at hat5
          obtain ⟨n, a6, e6, hq6⟩ : ∃ n a6 e6, fixTakeR s a5 e5 4 = (n, a6, e6) := ⟨_, _, _, rfl⟩
          have m4 : f4S s a e = (n, a6, e6) := by unfold f4S; rw [m3]; exact hq6
          have hle := f03_le s a e
          rw [m3, HF0.out] at hle
          dsimp only at hle
          have hat6 := fixTakeR_at (s := s) (at_ := a5) (err := e5) 4 hat5
          rw [hq6] at hat6
          dsimp only at hat6
          have hsi : sinceR s a5 (a2 : Nat) = s.extract a2 a5 := by unfold sinceR; rw [if_neg (by omega), Int.toNat_natCast]
          have m5 : f5S s a e = if e6 = 0 ∧ n ≠ (crcSum (s.extract a2 a5) : Nat) then 12 else e6 := by unfold f5S; rw [m4, m3, HF0.out]
          have hxz : (s.extract a2 a5).size ≤ 9223372036854775806 := by rw [ByteArray.size_extract]; omega
          generalize s.extract a2 a5 = body at *
          have HQ4 := Lib.hid hq4
          have HQ5 := Lib.hid hq5
          have HQ6 := Lib.hid hq6
          have HM2 := Lib.hid m2
          have HM3 := Lib.hid m3
          have HM4 := Lib.hid m4
          have HM5 := Lib.hid m5
          have HSI := Lib.hid hsi
          clear hq4 hq5 hq6 m2 m3 m4 m5 hsi
          go_wp2_with fail
          refine cursor_Byte g s a3 0 _ hc3 hat3 hs ?_
          rw [HQ4.out]; dsimp only
          intro w4 hc4 hx4
          have hF4 := hF3.ext hx4 (fun e => hgF e.symm)
          have hR4 := hR3.ext hx4 (fun e => hgr e.symm)
          have hcd4 := hcd3.ext hx4 (fun x e e' => hpg x e e') (fun z e e' => hzg z e e')
          have q1 := Blk.frozen hF4 1
          have k1 : w4.cell? ⟨F, 1, none⟩ = some (.int .u8 0) := (Blk.cell hF4 1).trans rfl
          go_wp2_with fail
          have hF4' : Blk (w4.setCell ⟨F, 1, none⟩ (.int .u8 kd)) F 39 #[.int .u8 v, .int .u8 kd, .string ⟨#[]⟩] := Blk.set hF4 1 _
          have hc4' : Cur (w4.setCell ⟨F, 1, none⟩ (.int .u8 kd)) g s a4 e4 := Blk.far hc4 (p := ⟨F, 1, none⟩) hgF _
          have hR4' := Blk.far hR4 (p := ⟨F, 1, none⟩) hrF (.int .u8 kd)
          have hx4' := (hx3.trans (S' := fun b => b = g ∨ Z = some b) (hx4.mono (fun b _ e => .inl e)) (fun _ _ e => e)).setCell (p := ⟨F, 1, none⟩) (fun hlt => absurd hlt (Nat.not_lt.2 hFl)) (.int .u8 kd)
          have hcd4' := hcd4.ext (S := (· = F)) (Ext.self _ F 1 (.int .u8 kd)) (fun x e e' => hpF x e e') (fun z e e' => hzF z e e')
          generalize (w4.setCell ⟨F, 1, none⟩ (.int .u8 kd)) = w4' at *
          clear hF4 hR4 hcd4 q1 k1 hc4 hF3 hR3 hcd3 hx3 hx4 hc3
          refine blob_Take g s a4 e4 65536 _ hc4' hat4 hs (by decide) ?_
          rw [HQ5.out]; dsimp only
          intro w5 hc5 hx5
          have hF5 := hF4'.ext hx5 (fun e => hgF e.symm)
          have hR5 := hR4'.ext hx5 (fun e => hgr e.symm)
          have hcd5 := hcd4'.ext hx5 (fun x e e' => hpg x e e') (fun z e e' => hzg z e e')
          have hx5' := hx4'.trans (S' := fun b => b = g ∨ Z = some b) (hx5.mono (fun b _ e => .inl e)) (fun _ _ e => e)
          have q1 := Blk.frozen hF5 2
          have k1 : w5.cell? ⟨F, 2, none⟩ = some (.string ⟨#[]⟩) := (Blk.cell hF5 2).trans rfl
          clear hF4' hR4' hcd4' hx4' hx5 hc4'
          go_wp2_with fail
          have hF5' : Blk (w5.setCell ⟨F, 2, none⟩ (.string p)) F 39 #[.int .u8 v, .int .u8 kd, .string p] := Blk.set hF5 2 _
          have hc5' : Cur (w5.setCell ⟨F, 2, none⟩ (.string p)) g s a5 e5 := Blk.far hc5 (p := ⟨F, 2, none⟩) hgF _
          have hR5' := Blk.far hR5 (p := ⟨F, 2, none⟩) hrF (.string p)
          have hx5'' := hx5'.setCell (p := ⟨F, 2, none⟩) (fun hlt => absurd hlt (Nat.not_lt.2 hFl)) (.string p)
          have hcd5' := hcd5.ext (S := (· = F)) (Ext.self _ F 2 (.string p)) (fun x e e' => hpF x e e') (fun z e e' => hzF z e e')
          generalize (w5.setCell ⟨F, 2, none⟩ (.string p)) = w5' at *
          clear hF5 hR5 hcd5 q1 k1 hc5 hx5'
          refine fresh_d (fun W => Cur W g s a5 e5 ∧ Blk W F 39 #[.int .u8 v, .int .u8 kd, .string p] ∧ Blk W r 39 #[.int .u8 0, .int .u8 0, .string ⟨#[]⟩] ∧ Cd W P Z ∧ Ext (fun b => b = g ∨ Z = some b) w W) (fun n => ⟨hc5', hF5', hR5', hcd5', hx5''.drewN n⟩) (cursor_Since g s a5 e5 (a2 : Nat) _ hc5' hat5) ?_
          rw [HSI.out]
          rintro w6 ⟨hc6, hF6, hR6, hcd6, hx6⟩
          clear hc5' hF5' hR5' hcd5' hx5''
          go_wp2_with fail
          refine frame_sum P Z body _ hcd6 hxz ?_
          intro w7 hcd7 hx7
          have hF7 := hF6.ext hx7 (fun e => hzF _ e rfl)
          have hR7 := hR6.ext hx7 (fun e => hzr _ e rfl)
          have hc7 := hc6.ext hx7 (fun e => hzg _ e rfl)
          have hx7' := hx6.trans (S' := fun b => b = g ∨ Z = some b) (hx7.mono (fun b _ e => .inr e)) (fun _ _ e => e)
          clear hcd6 hF6 hR6 hc6 hx6 hx7
          generalize hcr : ((crcSum body : Nat) : Int) = cr at *
          have HCR := Lib.hid hcr
          clear hcr
          go_wp2_with fail
          refine fixed_Take 4 g s a5 e5 _ hc7 hat5 hs ?_
          rw [HQ6.out]; dsimp only
          intro w8 hc8 hx8
          have hF8 := hF7.ext hx8 (fun e => hgF e.symm)
          have hR8 := hR7.ext hx8 (fun e => hgr e.symm)
          have hcd8 := hcd7.ext hx8 (fun x e e' => hpg x e e') (fun z e e' => hzg z e e')
          have hx8' := hx7'.trans (S' := fun b => b = g ∨ Z = some b) (hx8.mono (fun b _ e => .inl e)) (fun _ _ e => e)
          clear hF7 hR7 hcd7 hc7 hx7' hx8
          have hfr : frT s a e = (if f5S s a e ≠ 0 then (0, 0, ⟨#[]⟩) else (v, kd, p), a6, f5S s a e) := by unfold frT; rw [HM4.out, HM3.out, HM2.out, HM1.out]
          by_cases he6 : e6 = 0
          · subst he6
            by_cases hn : n = cr
            · subst hn
              have h5 : f5S s a e = 0 := by rw [HM5.out, if_neg (fun h => h.2 rfl)]
              rw [h5, if_neg (by decide)] at hfr
              rw [hfr] at HR
              clear hfr
              have hc7 := hc8
              have hF7 := hF8
              have hR7 := hR8
              clear hc8 hF8 hR8
              go_wp2_with fail
              refine (cursor_Err g s a6 0 _ hc7).mono ?_
              rintro x w' ⟨rfl, rfl⟩
              have d0 : w8.cell? ⟨r, 0, none⟩ = some (.int .u8 0) := (Blk.cell hR7 0).trans rfl
              have d1 : w8.cell? ⟨r, 1, none⟩ = some (.int .u8 0) := (Blk.cell hR7 1).trans rfl
              have d2 : w8.cell? ⟨r, 2, none⟩ = some (.string ⟨#[]⟩) := (Blk.cell hR7 2).trans rfl
              have g0 := Blk.frozen hR7 0
              have g1 := Blk.frozen hR7 1
              have g2 := Blk.frozen hR7 2
              have k0 : w8.cell? ⟨F, 0, none⟩ = some (.int .u8 v) := (Blk.cell hF7 0).trans rfl
              have k1 : w8.cell? ⟨F, 1, none⟩ = some (.int .u8 kd) := (Blk.cell hF7 1).trans rfl
              have k2 : w8.cell? ⟨F, 2, none⟩ = some (.string p) := (Blk.cell hF7 2).trans rfl
              go_wp2
              have u1 : Ext (fun b => b = r) w8 _ := ((Ext.self w8 r 0 (.int .u8 v)).setCell (p := ⟨r, 1, none⟩) (fun _ => rfl) (.int .u8 kd)).setCell (p := ⟨r, 2, none⟩) (fun _ => rfl) (.string p)
              exact bodyPost_ret (v := .agg #[.int .u8 v, .int .u8 kd, .string p]) (by simp [results, go_sem, d0, d1, d2]) rfl
                (HR.out _ (hc7.ext u1 hgr) (hcd8.ext u1 (fun x e e' => hpr x e e') (fun z e e' => hzr z e e')) (hx8'.trans u1 (fun b hb e => absurd hb (by rw [e]; exact Nat.not_lt.2 (Nat.le_of_eq HRE.out)))))
            · have hnb : (n == cr) = false := by simpa using hn
              have h5 : f5S s a e = 12 := by rw [HM5.out, if_pos ⟨rfl, hn⟩]
              rw [h5, if_pos (by decide)] at hfr
              rw [hfr] at HR
              clear hfr
              go_wp2_with fail
              refine cursor_Fail g s a6 0 12 _ hc8 ?_
              intro w9 hc7 hx9
              have hF7 := hF8.ext hx9 (fun e => hgF e.symm)
              have hR7 := hR8.ext hx9 (fun e => hgr e.symm)
              have hcd9 := hcd8.ext hx9 (fun x e e' => hpg x e e') (fun z e e' => hzg z e e')
              have hx9' := hx8'.trans (S' := fun b => b = g ∨ Z = some b) (hx9.mono (fun b _ e => .inl e)) (fun _ _ e => e)
              rw [if_pos rfl] at hc7
              clear hc8 hF8 hR8
              go_wp2_with fail
              refine (cursor_Err g s a6 12 _ hc7).mono ?_
              rintro x w' ⟨rfl, rfl⟩
              have d0 : w9.cell? ⟨r, 0, none⟩ = some (.int .u8 0) := (Blk.cell hR7 0).trans rfl
              have d1 : w9.cell? ⟨r, 1, none⟩ = some (.int .u8 0) := (Blk.cell hR7 1).trans rfl
              have d2 : w9.cell? ⟨r, 2, none⟩ = some (.string ⟨#[]⟩) := (Blk.cell hR7 2).trans rfl
              have g0 := Blk.frozen hR7 0
              have g1 := Blk.frozen hR7 1
              have g2 := Blk.frozen hR7 2
              have k0 : w9.cell? ⟨F, 0, none⟩ = some (.int .u8 v) := (Blk.cell hF7 0).trans rfl
              have k1 : w9.cell? ⟨F, 1, none⟩ = some (.int .u8 kd) := (Blk.cell hF7 1).trans rfl
              have k2 : w9.cell? ⟨F, 2, none⟩ = some (.string p) := (Blk.cell hF7 2).trans rfl
              go_wp2
              have u1 : Ext (fun b => b = r) w9 _ := ((Ext.self w9 r 0 (.int .u8 0)).setCell (p := ⟨r, 1, none⟩) (fun _ => rfl) (.int .u8 0)).setCell (p := ⟨r, 2, none⟩) (fun _ => rfl) (.string ⟨#[]⟩)
              exact bodyPost_ret (v := .agg #[.int .u8 0, .int .u8 0, .string ⟨#[]⟩]) (by simp [results, go_sem, d0, d1, d2]) rfl
                (HR.out _ (hc7.ext u1 hgr) (hcd9.ext u1 (fun x e e' => hpr x e e') (fun z e e' => hzr z e e')) (hx9'.trans u1 (fun b hb e => absurd hb (by rw [e]; exact Nat.not_lt.2 (Nat.le_of_eq HRE.out)))))
          · have h5 : f5S s a e = e6 := by rw [HM5.out, if_neg (fun h => he6 h.1)]
            have heb : (e6 == 0) = false := by simpa using he6
            rw [h5, if_pos he6] at hfr
            rw [hfr] at HR
            clear hfr
            by_cases hn : n = cr
            · subst hn
              have hc7 := hc8
              have hF7 := hF8
              have hR7 := hR8
              clear hc8 hF8 hR8
              go_wp2_with fail
              refine (cursor_Err g s a6 e6 _ hc7).mono ?_
              rintro x w' ⟨rfl, rfl⟩
              have d0 : w8.cell? ⟨r, 0, none⟩ = some (.int .u8 0) := (Blk.cell hR7 0).trans rfl
              have d1 : w8.cell? ⟨r, 1, none⟩ = some (.int .u8 0) := (Blk.cell hR7 1).trans rfl
              have d2 : w8.cell? ⟨r, 2, none⟩ = some (.string ⟨#[]⟩) := (Blk.cell hR7 2).trans rfl
              have g0 := Blk.frozen hR7 0
              have g1 := Blk.frozen hR7 1
              have g2 := Blk.frozen hR7 2
              have k0 : w8.cell? ⟨F, 0, none⟩ = some (.int .u8 v) := (Blk.cell hF7 0).trans rfl
              have k1 : w8.cell? ⟨F, 1, none⟩ = some (.int .u8 kd) := (Blk.cell hF7 1).trans rfl
              have k2 : w8.cell? ⟨F, 2, none⟩ = some (.string p) := (Blk.cell hF7 2).trans rfl
              go_wp2
              have u1 : Ext (fun b => b = r) w8 _ := ((Ext.self w8 r 0 (.int .u8 0)).setCell (p := ⟨r, 1, none⟩) (fun _ => rfl) (.int .u8 0)).setCell (p := ⟨r, 2, none⟩) (fun _ => rfl) (.string ⟨#[]⟩)
              exact bodyPost_ret (v := .agg #[.int .u8 0, .int .u8 0, .string ⟨#[]⟩]) (by simp [results, go_sem, d0, d1, d2]) rfl
                (HR.out _ (hc7.ext u1 hgr) (hcd8.ext u1 (fun x e e' => hpr x e e') (fun z e e' => hzr z e e')) (hx8'.trans u1 (fun b hb e => absurd hb (by rw [e]; exact Nat.not_lt.2 (Nat.le_of_eq HRE.out)))))
            · have hnb : (n == cr) = false := by simpa using hn
              go_wp2_with fail
              refine cursor_Fail g s a6 e6 12 _ hc8 ?_
              intro w9 hc7 hx9
              have hF7 := hF8.ext hx9 (fun e => hgF e.symm)
              have hR7 := hR8.ext hx9 (fun e => hgr e.symm)
              have hcd9 := hcd8.ext hx9 (fun x e e' => hpg x e e') (fun z e e' => hzg z e e')
              have hx9' := hx8'.trans (S' := fun b => b = g ∨ Z = some b) (hx9.mono (fun b _ e => .inl e)) (fun _ _ e => e)
              rw [if_neg he6] at hc7
              clear hc8 hF8 hR8
              go_wp2_with fail
              refine (cursor_Err g s a6 e6 _ hc7).mono ?_
              rintro x w' ⟨rfl, rfl⟩
              have d0 : w9.cell? ⟨r, 0, none⟩ = some (.int .u8 0) := (Blk.cell hR7 0).trans rfl
              have d1 : w9.cell? ⟨r, 1, none⟩ = some (.int .u8 0) := (Blk.cell hR7 1).trans rfl
              have d2 : w9.cell? ⟨r, 2, none⟩ = some (.string ⟨#[]⟩) := (Blk.cell hR7 2).trans rfl
              have g0 := Blk.frozen hR7 0
              have g1 := Blk.frozen hR7 1
              have g2 := Blk.frozen hR7 2
              have k0 : w9.cell? ⟨F, 0, none⟩ = some (.int .u8 v) := (Blk.cell hF7 0).trans rfl
              have k1 : w9.cell? ⟨F, 1, none⟩ = some (.int .u8 kd) := (Blk.cell hF7 1).trans rfl
              have k2 : w9.cell? ⟨F, 2, none⟩ = some (.string p) := (Blk.cell hF7 2).trans rfl
              go_wp2
              have u1 : Ext (fun b => b = r) w9 _ := ((Ext.self w9 r 0 (.int .u8 0)).setCell (p := ⟨r, 1, none⟩) (fun _ => rfl) (.int .u8 0)).setCell (p := ⟨r, 2, none⟩) (fun _ => rfl) (.string ⟨#[]⟩)
              exact bodyPost_ret (v := .agg #[.int .u8 0, .int .u8 0, .string ⟨#[]⟩]) (by simp [results, go_sem, d0, d1, d2]) rfl
                (HR.out _ (hc7.ext u1 hgr) (hcd9.ext u1 (fun x e e' => hpr x e e') (fun z e e' => hzr z e e')) (hx9'.trans u1 (fun b hb e => absurd hb (by rw [e]; exact Nat.not_lt.2 (Nat.le_of_eq HRE.out)))))
        · rw [if_pos ⟨rfl, hv⟩] at hm1
          have HM1 := Lib.hid hm1
          have HV := Lib.hid (decide_eq_false hv)
          clear hm1 hv
          go_wp2_with fail
          generalize (w3.setCell ⟨F, 0, none⟩ (.int .u8 v)) = w3' at *
          refine (cursor_Err g s a3 0 _ hc3').mono ?_
          rintro x w' ⟨rfl, rfl⟩
          have k0 : w3'.cell? ⟨F, 0, none⟩ = some (.int .u8 v) := (Blk.cell hF3' 0).trans rfl
          go_wp2_with fail
          refine (frame_version v _).mono ?_
          rw [HV.out]
          rintro x w' ⟨rfl, rfl⟩
          clear k0 k1 q1
          go_wp2_with fail
          refine cursor_Fail g s a3 0 10 _ hc3' ?_
          intro w4 hc3 hx4
          rw [if_pos rfl] at hc3
          have hF3 := hF3'.ext hx4 (fun e => hgF e.symm)
          have hR3 := hR3'.ext hx4 (fun e => hgr e.symm)
          have hcd3 := hcd3'.ext hx4 (fun x e e' => hpg x e e') (fun z e e' => hzg z e e')
          have hx3 := hx3''.trans (S' := fun b => b = g ∨ Z = some b) (hx4.mono (fun b _ e => .inl e)) (fun _ _ e => e)
          clear hF3' hc3' hR3' hx3'' hcd3' hx4
          obtain ⟨kd, a4, e4, hq4⟩ : ∃ kd a4 e4, byteR s a3 10 = (kd, a4, e4) := ⟨_, _, _, rfl⟩
          have hat4 := byteR_at (s := s) (at_ := a3) (err := 10) hat3
          have m2 : f2S s a e = (kd, a4, e4) := by unfold f2S; rw [HM1.out]; exact hq4
          rw [hq4] at hat4
          dsimp only at hat4
          obtain ⟨p, a5, e5, hq5⟩ : ∃ p a5 e5, blobR s a4 e4 65536 = (p, a5, e5) := ⟨_, _, _, rfl⟩
          have hat5 := blobR_at (s := s) (a := a4) (e := e4) 65536 hat4
          have m3 : f3S s a e = (p, a5, e5) := by unfold f3S; rw [m2]; exact hq5
          rw [hq5] at hat5
          dsimp only at hat5
          obtain ⟨n, a6, e6, hq6⟩ : ∃ n a6 e6, fixTakeR s a5 e5 4 = (n, a6, e6) := ⟨_, _, _, rfl⟩
          have m4 : f4S s a e = (n, a6, e6) := by unfold f4S; rw [m3]; exact hq6
          have hle := f03_le s a e
          rw [m3, HF0.out] at hle
          dsimp only at hle
          have hat6 := fixTakeR_at (s := s) (at_ := a5) (err := e5) 4 hat5
          rw [hq6] at hat6
          dsimp only at hat6
          have hsi : sinceR s a5 (a2 : Nat) = s.extract a2 a5 := by unfold sinceR; rw [if_neg (by omega), Int.toNat_natCast]
          have m5 : f5S s a e = if e6 = 0 ∧ n ≠ (crcSum (s.extract a2 a5) : Nat) then 12 else e6 := by unfold f5S; rw [m4, m3, HF0.out]
          have hxz : (s.extract a2 a5).size ≤ 9223372036854775806 := by rw [ByteArray.size_extract]; omega
          generalize s.extract a2 a5 = body at *
          have HQ4 := Lib.hid hq4
          have HQ5 := Lib.hid hq5
          have HQ6 := Lib.hid hq6
          have HM2 := Lib.hid m2
          have HM3 := Lib.hid m3
          have HM4 := Lib.hid m4
          have HM5 := Lib.hid m5
          have HSI := Lib.hid hsi
          clear hq4 hq5 hq6 m2 m3 m4 m5 hsi
          go_wp2_with fail
          refine cursor_Byte g s a3 10 _ hc3 hat3 hs ?_
          rw [HQ4.out]; dsimp only
          intro w4 hc4 hx4
          have hF4 := hF3.ext hx4 (fun e => hgF e.symm)
          have hR4 := hR3.ext hx4 (fun e => hgr e.symm)
          have hcd4 := hcd3.ext hx4 (fun x e e' => hpg x e e') (fun z e e' => hzg z e e')
          have q1 := Blk.frozen hF4 1
          have k1 : w4.cell? ⟨F, 1, none⟩ = some (.int .u8 0) := (Blk.cell hF4 1).trans rfl
          go_wp2_with fail
          have hF4' : Blk (w4.setCell ⟨F, 1, none⟩ (.int .u8 kd)) F 39 #[.int .u8 v, .int .u8 kd, .string ⟨#[]⟩] := Blk.set hF4 1 _
          have hc4' : Cur (w4.setCell ⟨F, 1, none⟩ (.int .u8 kd)) g s a4 e4 := Blk.far hc4 (p := ⟨F, 1, none⟩) hgF _
          have hR4' := Blk.far hR4 (p := ⟨F, 1, none⟩) hrF (.int .u8 kd)
          have hx4' := (hx3.trans (S' := fun b => b = g ∨ Z = some b) (hx4.mono (fun b _ e => .inl e)) (fun _ _ e => e)).setCell (p := ⟨F, 1, none⟩) (fun hlt => absurd hlt (Nat.not_lt.2 hFl)) (.int .u8 kd)
          have hcd4' := hcd4.ext (S := (· = F)) (Ext.self _ F 1 (.int .u8 kd)) (fun x e e' => hpF x e e') (fun z e e' => hzF z e e')
          generalize (w4.setCell ⟨F, 1, none⟩ (.int .u8 kd)) = w4' at *
          clear hF4 hR4 hcd4 q1 k1 hc4 hF3 hR3 hcd3 hx3 hx4 hc3
          refine blob_Take g s a4 e4 65536 _ hc4' hat4 hs (by decide) ?_
          rw [HQ5.out]; dsimp only
          intro w5 hc5 hx5
          have hF5 := hF4'.ext hx5 (fun e => hgF e.symm)
          have hR5 := hR4'.ext hx5 (fun e => hgr e.symm)
          have hcd5 := hcd4'.ext hx5 (fun x e e' => hpg x e e') (fun z e e' => hzg z e e')
          have hx5' := hx4'.trans (S' := fun b => b = g ∨ Z = some b) (hx5.mono (fun b _ e => .inl e)) (fun _ _ e => e)
          have q1 := Blk.frozen hF5 2
          have k1 : w5.cell? ⟨F, 2, none⟩ = some (.string ⟨#[]⟩) := (Blk.cell hF5 2).trans rfl
          clear hF4' hR4' hcd4' hx4' hx5 hc4'
          go_wp2_with fail
          have hF5' : Blk (w5.setCell ⟨F, 2, none⟩ (.string p)) F 39 #[.int .u8 v, .int .u8 kd, .string p] := Blk.set hF5 2 _
          have hc5' : Cur (w5.setCell ⟨F, 2, none⟩ (.string p)) g s a5 e5 := Blk.far hc5 (p := ⟨F, 2, none⟩) hgF _
          have hR5' := Blk.far hR5 (p := ⟨F, 2, none⟩) hrF (.string p)
          have hx5'' := hx5'.setCell (p := ⟨F, 2, none⟩) (fun hlt => absurd hlt (Nat.not_lt.2 hFl)) (.string p)
          have hcd5' := hcd5.ext (S := (· = F)) (Ext.self _ F 2 (.string p)) (fun x e e' => hpF x e e') (fun z e e' => hzF z e e')
          generalize (w5.setCell ⟨F, 2, none⟩ (.string p)) = w5' at *
          clear hF5 hR5 hcd5 q1 k1 hc5 hx5'
          refine fresh_d (fun W => Cur W g s a5 e5 ∧ Blk W F 39 #[.int .u8 v, .int .u8 kd, .string p] ∧ Blk W r 39 #[.int .u8 0, .int .u8 0, .string ⟨#[]⟩] ∧ Cd W P Z ∧ Ext (fun b => b = g ∨ Z = some b) w W) (fun n => ⟨hc5', hF5', hR5', hcd5', hx5''.drewN n⟩) (cursor_Since g s a5 e5 (a2 : Nat) _ hc5' hat5) ?_
          rw [HSI.out]
          rintro w6 ⟨hc6, hF6, hR6, hcd6, hx6⟩
          clear hc5' hF5' hR5' hcd5' hx5''
          go_wp2_with fail
          refine frame_sum P Z body _ hcd6 hxz ?_
          intro w7 hcd7 hx7
          have hF7 := hF6.ext hx7 (fun e => hzF _ e rfl)
          have hR7 := hR6.ext hx7 (fun e => hzr _ e rfl)
          have hc7 := hc6.ext hx7 (fun e => hzg _ e rfl)
          have hx7' := hx6.trans (S' := fun b => b = g ∨ Z = some b) (hx7.mono (fun b _ e => .inr e)) (fun _ _ e => e)
          clear hcd6 hF6 hR6 hc6 hx6 hx7
          generalize hcr : ((crcSum body : Nat) : Int) = cr at *
          have HCR := Lib.hid hcr
          clear hcr
          go_wp2_with fail
          refine fixed_Take 4 g s a5 e5 _ hc7 hat5 hs ?_
          rw [HQ6.out]; dsimp only
          intro w8 hc8 hx8
          have hF8 := hF7.ext hx8 (fun e => hgF e.symm)
          have hR8 := hR7.ext hx8 (fun e => hgr e.symm)
          have hcd8 := hcd7.ext hx8 (fun x e e' => hpg x e e') (fun z e e' => hzg z e e')
          have hx8' := hx7'.trans (S' := fun b => b = g ∨ Z = some b) (hx8.mono (fun b _ e => .inl e)) (fun _ _ e => e)
          clear hF7 hR7 hcd7 hc7 hx7' hx8
          have hfr : frT s a e = (if f5S s a e ≠ 0 then (0, 0, ⟨#[]⟩) else (v, kd, p), a6, f5S s a e) := by unfold frT; rw [HM4.out, HM3.out, HM2.out, HM1.out]
          by_cases he6 : e6 = 0
          · subst he6
            by_cases hn : n = cr
            · subst hn
              have h5 : f5S s a e = 0 := by rw [HM5.out, if_neg (fun h => h.2 rfl)]
              rw [h5, if_neg (by decide)] at hfr
              rw [hfr] at HR
              clear hfr
              have hc7 := hc8
              have hF7 := hF8
              have hR7 := hR8
              clear hc8 hF8 hR8
              go_wp2_with fail
              refine (cursor_Err g s a6 0 _ hc7).mono ?_
              rintro x w' ⟨rfl, rfl⟩
              have d0 : w8.cell? ⟨r, 0, none⟩ = some (.int .u8 0) := (Blk.cell hR7 0).trans rfl
              have d1 : w8.cell? ⟨r, 1, none⟩ = some (.int .u8 0) := (Blk.cell hR7 1).trans rfl
              have d2 : w8.cell? ⟨r, 2, none⟩ = some (.string ⟨#[]⟩) := (Blk.cell hR7 2).trans rfl
              have g0 := Blk.frozen hR7 0
              have g1 := Blk.frozen hR7 1
              have g2 := Blk.frozen hR7 2
              have k0 : w8.cell? ⟨F, 0, none⟩ = some (.int .u8 v) := (Blk.cell hF7 0).trans rfl
              have k1 : w8.cell? ⟨F, 1, none⟩ = some (.int .u8 kd) := (Blk.cell hF7 1).trans rfl
              have k2 : w8.cell? ⟨F, 2, none⟩ = some (.string p) := (Blk.cell hF7 2).trans rfl
              go_wp2
              have u1 : Ext (fun b => b = r) w8 _ := ((Ext.self w8 r 0 (.int .u8 v)).setCell (p := ⟨r, 1, none⟩) (fun _ => rfl) (.int .u8 kd)).setCell (p := ⟨r, 2, none⟩) (fun _ => rfl) (.string p)
              exact bodyPost_ret (v := .agg #[.int .u8 v, .int .u8 kd, .string p]) (by simp [results, go_sem, d0, d1, d2]) rfl
                (HR.out _ (hc7.ext u1 hgr) (hcd8.ext u1 (fun x e e' => hpr x e e') (fun z e e' => hzr z e e')) (hx8'.trans u1 (fun b hb e => absurd hb (by rw [e]; exact Nat.not_lt.2 (Nat.le_of_eq HRE.out)))))
            · have hnb : (n == cr) = false := by simpa using hn
              have h5 : f5S s a e = 12 := by rw [HM5.out, if_pos ⟨rfl, hn⟩]
              rw [h5, if_pos (by decide)] at hfr
              rw [hfr] at HR
              clear hfr
              go_wp2_with fail
              refine cursor_Fail g s a6 0 12 _ hc8 ?_
              intro w9 hc7 hx9
              have hF7 := hF8.ext hx9 (fun e => hgF e.symm)
              have hR7 := hR8.ext hx9 (fun e => hgr e.symm)
              have hcd9 := hcd8.ext hx9 (fun x e e' => hpg x e e') (fun z e e' => hzg z e e')
              have hx9' := hx8'.trans (S' := fun b => b = g ∨ Z = some b) (hx9.mono (fun b _ e => .inl e)) (fun _ _ e => e)
              rw [if_pos rfl] at hc7
              clear hc8 hF8 hR8
              go_wp2_with fail
              refine (cursor_Err g s a6 12 _ hc7).mono ?_
              rintro x w' ⟨rfl, rfl⟩
              have d0 : w9.cell? ⟨r, 0, none⟩ = some (.int .u8 0) := (Blk.cell hR7 0).trans rfl
              have d1 : w9.cell? ⟨r, 1, none⟩ = some (.int .u8 0) := (Blk.cell hR7 1).trans rfl
              have d2 : w9.cell? ⟨r, 2, none⟩ = some (.string ⟨#[]⟩) := (Blk.cell hR7 2).trans rfl
              have g0 := Blk.frozen hR7 0
              have g1 := Blk.frozen hR7 1
              have g2 := Blk.frozen hR7 2
              have k0 : w9.cell? ⟨F, 0, none⟩ = some (.int .u8 v) := (Blk.cell hF7 0).trans rfl
              have k1 : w9.cell? ⟨F, 1, none⟩ = some (.int .u8 kd) := (Blk.cell hF7 1).trans rfl
              have k2 : w9.cell? ⟨F, 2, none⟩ = some (.string p) := (Blk.cell hF7 2).trans rfl
              go_wp2
              have u1 : Ext (fun b => b = r) w9 _ := ((Ext.self w9 r 0 (.int .u8 0)).setCell (p := ⟨r, 1, none⟩) (fun _ => rfl) (.int .u8 0)).setCell (p := ⟨r, 2, none⟩) (fun _ => rfl) (.string ⟨#[]⟩)
              exact bodyPost_ret (v := .agg #[.int .u8 0, .int .u8 0, .string ⟨#[]⟩]) (by simp [results, go_sem, d0, d1, d2]) rfl
                (HR.out _ (hc7.ext u1 hgr) (hcd9.ext u1 (fun x e e' => hpr x e e') (fun z e e' => hzr z e e')) (hx9'.trans u1 (fun b hb e => absurd hb (by rw [e]; exact Nat.not_lt.2 (Nat.le_of_eq HRE.out)))))
          · have h5 : f5S s a e = e6 := by rw [HM5.out, if_neg (fun h => he6 h.1)]
            have heb : (e6 == 0) = false := by simpa using he6
            rw [h5, if_pos he6] at hfr
            rw [hfr] at HR
            clear hfr
            by_cases hn : n = cr
            · subst hn
              have hc7 := hc8
              have hF7 := hF8
              have hR7 := hR8
              clear hc8 hF8 hR8
              go_wp2_with fail
              refine (cursor_Err g s a6 e6 _ hc7).mono ?_
              rintro x w' ⟨rfl, rfl⟩
              have d0 : w8.cell? ⟨r, 0, none⟩ = some (.int .u8 0) := (Blk.cell hR7 0).trans rfl
              have d1 : w8.cell? ⟨r, 1, none⟩ = some (.int .u8 0) := (Blk.cell hR7 1).trans rfl
              have d2 : w8.cell? ⟨r, 2, none⟩ = some (.string ⟨#[]⟩) := (Blk.cell hR7 2).trans rfl
              have g0 := Blk.frozen hR7 0
              have g1 := Blk.frozen hR7 1
              have g2 := Blk.frozen hR7 2
              have k0 : w8.cell? ⟨F, 0, none⟩ = some (.int .u8 v) := (Blk.cell hF7 0).trans rfl
              have k1 : w8.cell? ⟨F, 1, none⟩ = some (.int .u8 kd) := (Blk.cell hF7 1).trans rfl
              have k2 : w8.cell? ⟨F, 2, none⟩ = some (.string p) := (Blk.cell hF7 2).trans rfl
              go_wp2
              have u1 : Ext (fun b => b = r) w8 _ := ((Ext.self w8 r 0 (.int .u8 0)).setCell (p := ⟨r, 1, none⟩) (fun _ => rfl) (.int .u8 0)).setCell (p := ⟨r, 2, none⟩) (fun _ => rfl) (.string ⟨#[]⟩)
              exact bodyPost_ret (v := .agg #[.int .u8 0, .int .u8 0, .string ⟨#[]⟩]) (by simp [results, go_sem, d0, d1, d2]) rfl
                (HR.out _ (hc7.ext u1 hgr) (hcd8.ext u1 (fun x e e' => hpr x e e') (fun z e e' => hzr z e e')) (hx8'.trans u1 (fun b hb e => absurd hb (by rw [e]; exact Nat.not_lt.2 (Nat.le_of_eq HRE.out)))))
            · have hnb : (n == cr) = false := by simpa using hn
              go_wp2_with fail
              refine cursor_Fail g s a6 e6 12 _ hc8 ?_
              intro w9 hc7 hx9
              have hF7 := hF8.ext hx9 (fun e => hgF e.symm)
              have hR7 := hR8.ext hx9 (fun e => hgr e.symm)
              have hcd9 := hcd8.ext hx9 (fun x e e' => hpg x e e') (fun z e e' => hzg z e e')
              have hx9' := hx8'.trans (S' := fun b => b = g ∨ Z = some b) (hx9.mono (fun b _ e => .inl e)) (fun _ _ e => e)
              rw [if_neg he6] at hc7
              clear hc8 hF8 hR8
              go_wp2_with fail
              refine (cursor_Err g s a6 e6 _ hc7).mono ?_
              rintro x w' ⟨rfl, rfl⟩
              have d0 : w9.cell? ⟨r, 0, none⟩ = some (.int .u8 0) := (Blk.cell hR7 0).trans rfl
              have d1 : w9.cell? ⟨r, 1, none⟩ = some (.int .u8 0) := (Blk.cell hR7 1).trans rfl
              have d2 : w9.cell? ⟨r, 2, none⟩ = some (.string ⟨#[]⟩) := (Blk.cell hR7 2).trans rfl
              have g0 := Blk.frozen hR7 0
              have g1 := Blk.frozen hR7 1
              have g2 := Blk.frozen hR7 2
              have k0 : w9.cell? ⟨F, 0, none⟩ = some (.int .u8 v) := (Blk.cell hF7 0).trans rfl
              have k1 : w9.cell? ⟨F, 1, none⟩ = some (.int .u8 kd) := (Blk.cell hF7 1).trans rfl
              have k2 : w9.cell? ⟨F, 2, none⟩ = some (.string p) := (Blk.cell hF7 2).trans rfl
              go_wp2
              have u1 : Ext (fun b => b = r) w9 _ := ((Ext.self w9 r 0 (.int .u8 0)).setCell (p := ⟨r, 1, none⟩) (fun _ => rfl) (.int .u8 0)).setCell (p := ⟨r, 2, none⟩) (fun _ => rfl) (.string ⟨#[]⟩)
              exact bodyPost_ret (v := .agg #[.int .u8 0, .int .u8 0, .string ⟨#[]⟩]) (by simp [results, go_sem, d0, d1, d2]) rfl
                (HR.out _ (hc7.ext u1 hgr) (hcd9.ext u1 (fun x e e' => hpr x e e') (fun z e e' => hzr z e e')) (hx9'.trans u1 (fun b hb e => absurd hb (by rw [e]; exact Nat.not_lt.2 (Nat.le_of_eq HRE.out)))))
      · rw [if_neg (fun h => he h.1)] at hm1
        have HM1 := Lib.hid hm1
        have heb3 : (e3r == 0) = false := by simpa using he
        clear hm1
        go_wp2_with fail
        generalize (w3.setCell ⟨F, 0, none⟩ (.int .u8 v)) = w3' at *
        refine (cursor_Err g s a3 e3r _ hc3').mono ?_
        rintro x w' ⟨rfl, rfl⟩
        clear k1 q1
        have hF3 := hF3'
        have hc3 := hc3'
        have hR3 := hR3'
        have hx3 := hx3''
        have hcd3 := hcd3'
        clear hF3' hc3' hR3' hx3'' hcd3'
        obtain ⟨kd, a4, e4, hq4⟩ : ∃ kd a4 e4, byteR s a3 e3r = (kd, a4, e4) := ⟨_, _, _, rfl⟩
        have hat4 := byteR_at (s := s) (at_ := a3) (err := e3r) hat3
        have m2 : f2S s a e = (kd, a4, e4) := by unfold f2S; rw [HM1.out]; exact hq4
        rw [hq4] at hat4
        dsimp only at hat4
        obtain ⟨p, a5, e5, hq5⟩ : ∃ p a5 e5, blobR s a4 e4 65536 = (p, a5, e5) := ⟨_, _, _, rfl⟩
        have hat5 := blobR_at (s := s) (a := a4) (e := e4) 65536 hat4
        have m3 : f3S s a e = (p, a5, e5) := by unfold f3S; rw [m2]; exact hq5
        rw [hq5] at hat5
        dsimp only at hat5
        obtain ⟨n, a6, e6, hq6⟩ : ∃ n a6 e6, fixTakeR s a5 e5 4 = (n, a6, e6) := ⟨_, _, _, rfl⟩
        have m4 : f4S s a e = (n, a6, e6) := by unfold f4S; rw [m3]; exact hq6
        have hle := f03_le s a e
        rw [m3, HF0.out] at hle
        dsimp only at hle
        have hat6 := fixTakeR_at (s := s) (at_ := a5) (err := e5) 4 hat5
        rw [hq6] at hat6
        dsimp only at hat6
        have hsi : sinceR s a5 (a2 : Nat) = s.extract a2 a5 := by unfold sinceR; rw [if_neg (by omega), Int.toNat_natCast]
        have m5 : f5S s a e = if e6 = 0 ∧ n ≠ (crcSum (s.extract a2 a5) : Nat) then 12 else e6 := by unfold f5S; rw [m4, m3, HF0.out]
        have hxz : (s.extract a2 a5).size ≤ 9223372036854775806 := by rw [ByteArray.size_extract]; omega
        generalize s.extract a2 a5 = body at *
        have HQ4 := Lib.hid hq4
        have HQ5 := Lib.hid hq5
        have HQ6 := Lib.hid hq6
        have HM2 := Lib.hid m2
        have HM3 := Lib.hid m3
        have HM4 := Lib.hid m4
        have HM5 := Lib.hid m5
        have HSI := Lib.hid hsi
        clear hq4 hq5 hq6 m2 m3 m4 m5 hsi
        go_wp2_with fail
        refine cursor_Byte g s a3 e3r _ hc3 hat3 hs ?_
        rw [HQ4.out]; dsimp only
        intro w4 hc4 hx4
        have hF4 := hF3.ext hx4 (fun e => hgF e.symm)
        have hR4 := hR3.ext hx4 (fun e => hgr e.symm)
        have hcd4 := hcd3.ext hx4 (fun x e e' => hpg x e e') (fun z e e' => hzg z e e')
        have q1 := Blk.frozen hF4 1
        have k1 : w4.cell? ⟨F, 1, none⟩ = some (.int .u8 0) := (Blk.cell hF4 1).trans rfl
        go_wp2_with fail
        have hF4' : Blk (w4.setCell ⟨F, 1, none⟩ (.int .u8 kd)) F 39 #[.int .u8 v, .int .u8 kd, .string ⟨#[]⟩] := Blk.set hF4 1 _
        have hc4' : Cur (w4.setCell ⟨F, 1, none⟩ (.int .u8 kd)) g s a4 e4 := Blk.far hc4 (p := ⟨F, 1, none⟩) hgF _
        have hR4' := Blk.far hR4 (p := ⟨F, 1, none⟩) hrF (.int .u8 kd)
        have hx4' := (hx3.trans (S' := fun b => b = g ∨ Z = some b) (hx4.mono (fun b _ e => .inl e)) (fun _ _ e => e)).setCell (p := ⟨F, 1, none⟩) (fun hlt => absurd hlt (Nat.not_lt.2 hFl)) (.int .u8 kd)
        have hcd4' := hcd4.ext (S := (· = F)) (Ext.self _ F 1 (.int .u8 kd)) (fun x e e' => hpF x e e') (fun z e e' => hzF z e e')
        generalize (w4.setCell ⟨F, 1, none⟩ (.int .u8 kd)) = w4' at *
        clear hF4 hR4 hcd4 q1 k1 hc4 hF3 hR3 hcd3 hx3 hx4 hc3
        refine blob_Take g s a4 e4 65536 _ hc4' hat4 hs (by decide) ?_
        rw [HQ5.out]; dsimp only
        intro w5 hc5 hx5
        have hF5 := hF4'.ext hx5 (fun e => hgF e.symm)
        have hR5 := hR4'.ext hx5 (fun e => hgr e.symm)
        have hcd5 := hcd4'.ext hx5 (fun x e e' => hpg x e e') (fun z e e' => hzg z e e')
        have hx5' := hx4'.trans (S' := fun b => b = g ∨ Z = some b) (hx5.mono (fun b _ e => .inl e)) (fun _ _ e => e)
        have q1 := Blk.frozen hF5 2
        have k1 : w5.cell? ⟨F, 2, none⟩ = some (.string ⟨#[]⟩) := (Blk.cell hF5 2).trans rfl
        clear hF4' hR4' hcd4' hx4' hx5 hc4'
        go_wp2_with fail
        have hF5' : Blk (w5.setCell ⟨F, 2, none⟩ (.string p)) F 39 #[.int .u8 v, .int .u8 kd, .string p] := Blk.set hF5 2 _
        have hc5' : Cur (w5.setCell ⟨F, 2, none⟩ (.string p)) g s a5 e5 := Blk.far hc5 (p := ⟨F, 2, none⟩) hgF _
        have hR5' := Blk.far hR5 (p := ⟨F, 2, none⟩) hrF (.string p)
        have hx5'' := hx5'.setCell (p := ⟨F, 2, none⟩) (fun hlt => absurd hlt (Nat.not_lt.2 hFl)) (.string p)
        have hcd5' := hcd5.ext (S := (· = F)) (Ext.self _ F 2 (.string p)) (fun x e e' => hpF x e e') (fun z e e' => hzF z e e')
        generalize (w5.setCell ⟨F, 2, none⟩ (.string p)) = w5' at *
        clear hF5 hR5 hcd5 q1 k1 hc5 hx5'
        refine fresh_d (fun W => Cur W g s a5 e5 ∧ Blk W F 39 #[.int .u8 v, .int .u8 kd, .string p] ∧ Blk W r 39 #[.int .u8 0, .int .u8 0, .string ⟨#[]⟩] ∧ Cd W P Z ∧ Ext (fun b => b = g ∨ Z = some b) w W) (fun n => ⟨hc5', hF5', hR5', hcd5', hx5''.drewN n⟩) (cursor_Since g s a5 e5 (a2 : Nat) _ hc5' hat5) ?_
        rw [HSI.out]
        rintro w6 ⟨hc6, hF6, hR6, hcd6, hx6⟩
        clear hc5' hF5' hR5' hcd5' hx5''
        go_wp2_with fail
        refine frame_sum P Z body _ hcd6 hxz ?_
        intro w7 hcd7 hx7
        have hF7 := hF6.ext hx7 (fun e => hzF _ e rfl)
        have hR7 := hR6.ext hx7 (fun e => hzr _ e rfl)
        have hc7 := hc6.ext hx7 (fun e => hzg _ e rfl)
        have hx7' := hx6.trans (S' := fun b => b = g ∨ Z = some b) (hx7.mono (fun b _ e => .inr e)) (fun _ _ e => e)
        clear hcd6 hF6 hR6 hc6 hx6 hx7
        generalize hcr : ((crcSum body : Nat) : Int) = cr at *
        have HCR := Lib.hid hcr
        clear hcr
        go_wp2_with fail
        refine fixed_Take 4 g s a5 e5 _ hc7 hat5 hs ?_
        rw [HQ6.out]; dsimp only
        intro w8 hc8 hx8
        have hF8 := hF7.ext hx8 (fun e => hgF e.symm)
        have hR8 := hR7.ext hx8 (fun e => hgr e.symm)
        have hcd8 := hcd7.ext hx8 (fun x e e' => hpg x e e') (fun z e e' => hzg z e e')
        have hx8' := hx7'.trans (S' := fun b => b = g ∨ Z = some b) (hx8.mono (fun b _ e => .inl e)) (fun _ _ e => e)
        clear hF7 hR7 hcd7 hc7 hx7' hx8
        have hfr : frT s a e = (if f5S s a e ≠ 0 then (0, 0, ⟨#[]⟩) else (v, kd, p), a6, f5S s a e) := by unfold frT; rw [HM4.out, HM3.out, HM2.out, HM1.out]
        by_cases he6 : e6 = 0
        · subst he6
          by_cases hn : n = cr
          · subst hn
            have h5 : f5S s a e = 0 := by rw [HM5.out, if_neg (fun h => h.2 rfl)]
            rw [h5, if_neg (by decide)] at hfr
            rw [hfr] at HR
            clear hfr
            have hc7 := hc8
            have hF7 := hF8
            have hR7 := hR8
            clear hc8 hF8 hR8
            go_wp2_with fail
            refine (cursor_Err g s a6 0 _ hc7).mono ?_
            rintro x w' ⟨rfl, rfl⟩
            have d0 : w8.cell? ⟨r, 0, none⟩ = some (.int .u8 0) := (Blk.cell hR7 0).trans rfl
            have d1 : w8.cell? ⟨r, 1, none⟩ = some (.int .u8 0) := (Blk.cell hR7 1).trans rfl
            have d2 : w8.cell? ⟨r, 2, none⟩ = some (.string ⟨#[]⟩) := (Blk.cell hR7 2).trans rfl
            have g0 := Blk.frozen hR7 0
            have g1 := Blk.frozen hR7 1
            have g2 := Blk.frozen hR7 2
            have k0 : w8.cell? ⟨F, 0, none⟩ = some (.int .u8 v) := (Blk.cell hF7 0).trans rfl
            have k1 : w8.cell? ⟨F, 1, none⟩ = some (.int .u8 kd) := (Blk.cell hF7 1).trans rfl
            have k2 : w8.cell? ⟨F, 2, none⟩ = some (.string p) := (Blk.cell hF7 2).trans rfl
            go_wp2
            have u1 : Ext (fun b => b = r) w8 _ := ((Ext.self w8 r 0 (.int .u8 v)).setCell (p := ⟨r, 1, none⟩) (fun _ => rfl) (.int .u8 kd)).setCell (p := ⟨r, 2, none⟩) (fun _ => rfl) (.string p)
            exact bodyPost_ret (v := .agg #[.int .u8 v, .int .u8 kd, .string p]) (by simp [results, go_sem, d0, d1, d2]) rfl
              (HR.out _ (hc7.ext u1 hgr) (hcd8.ext u1 (fun x e e' => hpr x e e') (fun z e e' => hzr z e e')) (hx8'.trans u1 (fun b hb e => absurd hb (by rw [e]; exact Nat.not_lt.2 (Nat.le_of_eq HRE.out)))))
          · have hnb : (n == cr) = false := by simpa using hn
            have h5 : f5S s a e = 12 := by rw [HM5.out, if_pos ⟨rfl, hn⟩]
            rw [h5, if_pos (by decide)] at hfr
            rw [hfr] at HR
            clear hfr
            go_wp2_with fail
            refine cursor_Fail g s a6 0 12 _ hc8 ?_
            intro w9 hc7 hx9
            have hF7 := hF8.ext hx9 (fun e => hgF e.symm)
            have hR7 := hR8.ext hx9 (fun e => hgr e.symm)
            have hcd9 := hcd8.ext hx9 (fun x e e' => hpg x e e') (fun z e e' => hzg z e e')
            have hx9' := hx8'.trans (S' := fun b => b = g ∨ Z = some b) (hx9.mono (fun b _ e => .inl e)) (fun _ _ e => e)
            rw [if_pos rfl] at hc7
            clear hc8 hF8 hR8
            go_wp2_with fail
            refine (cursor_Err g s a6 12 _ hc7).mono ?_
            rintro x w' ⟨rfl, rfl⟩
            have d0 : w9.cell? ⟨r, 0, none⟩ = some (.int .u8 0) := (Blk.cell hR7 0).trans rfl
            have d1 : w9.cell? ⟨r, 1, none⟩ = some (.int .u8 0) := (Blk.cell hR7 1).trans rfl
            have d2 : w9.cell? ⟨r, 2, none⟩ = some (.string ⟨#[]⟩) := (Blk.cell hR7 2).trans rfl
            have g0 := Blk.frozen hR7 0
            have g1 := Blk.frozen hR7 1
            have g2 := Blk.frozen hR7 2
            have k0 : w9.cell? ⟨F, 0, none⟩ = some (.int .u8 v) := (Blk.cell hF7 0).trans rfl
            have k1 : w9.cell? ⟨F, 1, none⟩ = some (.int .u8 kd) := (Blk.cell hF7 1).trans rfl
            have k2 : w9.cell? ⟨F, 2, none⟩ = some (.string p) := (Blk.cell hF7 2).trans rfl
            go_wp2
            have u1 : Ext (fun b => b = r) w9 _ := ((Ext.self w9 r 0 (.int .u8 0)).setCell (p := ⟨r, 1, none⟩) (fun _ => rfl) (.int .u8 0)).setCell (p := ⟨r, 2, none⟩) (fun _ => rfl) (.string ⟨#[]⟩)
            exact bodyPost_ret (v := .agg #[.int .u8 0, .int .u8 0, .string ⟨#[]⟩]) (by simp [results, go_sem, d0, d1, d2]) rfl
              (HR.out _ (hc7.ext u1 hgr) (hcd9.ext u1 (fun x e e' => hpr x e e') (fun z e e' => hzr z e e')) (hx9'.trans u1 (fun b hb e => absurd hb (by rw [e]; exact Nat.not_lt.2 (Nat.le_of_eq HRE.out)))))
        · have h5 : f5S s a e = e6 := by rw [HM5.out, if_neg (fun h => he6 h.1)]
          have heb : (e6 == 0) = false := by simpa using he6
          rw [h5, if_pos he6] at hfr
          rw [hfr] at HR
          clear hfr
          by_cases hn : n = cr
          · subst hn
            have hc7 := hc8
            have hF7 := hF8
            have hR7 := hR8
            clear hc8 hF8 hR8
            go_wp2_with fail
            refine (cursor_Err g s a6 e6 _ hc7).mono ?_
            rintro x w' ⟨rfl, rfl⟩
            have d0 : w8.cell? ⟨r, 0, none⟩ = some (.int .u8 0) := (Blk.cell hR7 0).trans rfl
            have d1 : w8.cell? ⟨r, 1, none⟩ = some (.int .u8 0) := (Blk.cell hR7 1).trans rfl
            have d2 : w8.cell? ⟨r, 2, none⟩ = some (.string ⟨#[]⟩) := (Blk.cell hR7 2).trans rfl
            have g0 := Blk.frozen hR7 0
            have g1 := Blk.frozen hR7 1
            have g2 := Blk.frozen hR7 2
            have k0 : w8.cell? ⟨F, 0, none⟩ = some (.int .u8 v) := (Blk.cell hF7 0).trans rfl
            have k1 : w8.cell? ⟨F, 1, none⟩ = some (.int .u8 kd) := (Blk.cell hF7 1).trans rfl
            have k2 : w8.cell? ⟨F, 2, none⟩ = some (.string p) := (Blk.cell hF7 2).trans rfl
            go_wp2
            have u1 : Ext (fun b => b = r) w8 _ := ((Ext.self w8 r 0 (.int .u8 0)).setCell (p := ⟨r, 1, none⟩) (fun _ => rfl) (.int .u8 0)).setCell (p := ⟨r, 2, none⟩) (fun _ => rfl) (.string ⟨#[]⟩)
            exact bodyPost_ret (v := .agg #[.int .u8 0, .int .u8 0, .string ⟨#[]⟩]) (by simp [results, go_sem, d0, d1, d2]) rfl
              (HR.out _ (hc7.ext u1 hgr) (hcd8.ext u1 (fun x e e' => hpr x e e') (fun z e e' => hzr z e e')) (hx8'.trans u1 (fun b hb e => absurd hb (by rw [e]; exact Nat.not_lt.2 (Nat.le_of_eq HRE.out)))))
          · have hnb : (n == cr) = false := by simpa using hn
            go_wp2_with fail
            refine cursor_Fail g s a6 e6 12 _ hc8 ?_
            intro w9 hc7 hx9
            have hF7 := hF8.ext hx9 (fun e => hgF e.symm)
            have hR7 := hR8.ext hx9 (fun e => hgr e.symm)
            have hcd9 := hcd8.ext hx9 (fun x e e' => hpg x e e') (fun z e e' => hzg z e e')
            have hx9' := hx8'.trans (S' := fun b => b = g ∨ Z = some b) (hx9.mono (fun b _ e => .inl e)) (fun _ _ e => e)
            rw [if_neg he6] at hc7
            clear hc8 hF8 hR8
            go_wp2_with fail
            refine (cursor_Err g s a6 e6 _ hc7).mono ?_
            rintro x w' ⟨rfl, rfl⟩
            have d0 : w9.cell? ⟨r, 0, none⟩ = some (.int .u8 0) := (Blk.cell hR7 0).trans rfl
            have d1 : w9.cell? ⟨r, 1, none⟩ = some (.int .u8 0) := (Blk.cell hR7 1).trans rfl
            have d2 : w9.cell? ⟨r, 2, none⟩ = some (.string ⟨#[]⟩) := (Blk.cell hR7 2).trans rfl
            have g0 := Blk.frozen hR7 0
            have g1 := Blk.frozen hR7 1
            have g2 := Blk.frozen hR7 2
            have k0 : w9.cell? ⟨F, 0, none⟩ = some (.int .u8 v) := (Blk.cell hF7 0).trans rfl
            have k1 : w9.cell? ⟨F, 1, none⟩ = some (.int .u8 kd) := (Blk.cell hF7 1).trans rfl
            have k2 : w9.cell? ⟨F, 2, none⟩ = some (.string p) := (Blk.cell hF7 2).trans rfl
            go_wp2
            have u1 : Ext (fun b => b = r) w9 _ := ((Ext.self w9 r 0 (.int .u8 0)).setCell (p := ⟨r, 1, none⟩) (fun _ => rfl) (.int .u8 0)).setCell (p := ⟨r, 2, none⟩) (fun _ => rfl) (.string ⟨#[]⟩)
            exact bodyPost_ret (v := .agg #[.int .u8 0, .int .u8 0, .string ⟨#[]⟩]) (by simp [results, go_sem, d0, d1, d2]) rfl
              (HR.out _ (hc7.ext u1 hgr) (hcd9.ext u1 (fun x e e' => hpr x e e') (fun z e e' => hzr z e e')) (hx9'.trans u1 (fun b hb e => absurd hb (by rw [e]; exact Nat.not_lt.2 (Nat.le_of_eq HRE.out)))))
end Go.Proofs.Ytkicaiecmipieaa
