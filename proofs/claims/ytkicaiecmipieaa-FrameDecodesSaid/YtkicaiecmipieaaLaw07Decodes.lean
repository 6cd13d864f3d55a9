/- FrameDecodes' walk. -/
import Derived.Deep.RegionWith
import Derived.Deep.DrawnRows
import Derived.Deep.DeepCutAuto
import Derived.Test.YtkicaiecmipieaaLaw07A
import Derived.Test.YtkicaiecmipieaaRef07b
namespace Go.Proofs.Ytkicaiecmipieaa
open Go.RowKit Go.Lib

theorem frD_frT (s : ByteArray) : ∃ v kd p m n e, frD s = ((v, kd, p), m, e) ∧ frT s 0 0 = ((v, kd, p), n, e) ∧ (e = 0 → m = n) := by
  unfold frD
  obtain ⟨v, kd, p, n, e, hq⟩ : ∃ v kd p n e, frT s 0 0 = ((v, kd, p), n, e) := ⟨_, _, _, _, _, rfl⟩
  by_cases he : e = 0
  · rw [hq, if_pos he]
    exact ⟨v, kd, p, n, n, e, rfl, rfl, fun _ => rfl⟩
  · rw [hq, if_neg he]
    have h := hq
    unfold frT at h
    injection h with h1 h2
    injection h2 with h2 h3
    rw [h3, if_pos he] at h1
    injection h1 with h1 h4
    injection h4 with h4 h5
    subst h1
    subst h4
    subst h5
    exact ⟨0, 0, ⟨#[]⟩, 0, n, e, rfl, rfl, fun h => absurd h he⟩

set_option maxHeartbeats 4000000 in
set_option maxRecDepth 100000 in
theorem law07_decodes (s : ByteArray) (w : World) (hs : s.size ≤ 140737488351232) :
    Calls Try.prog 7 #[.string s] w fun e w' => e = .returned (.bool true) ∧ Below w.heap.size w w' := by
  obtain ⟨v, kd, p, m, n, e, hD, hT, hmn⟩ := frD_frT s
  have hna := f4S_at (s := s) (a := 0) (e := 0) (Nat.zero_le _)
  have hback := fun h : frT s 0 0 = ((v, kd, p), n, 0) => frT_back h
  have hn : n ≤ s.size := by
    have : (frT s 0 0).2.1 = n := by rw [hT]
    rw [← this]
    exact hna
  have HD := Lib.hid hD
  have HT := Lib.hid hT
  have HMN := Lib.hid hmn
  have HBK := Lib.hid hback
  clear hD hT hmn hna hback
  go_enter Try.func7, Try.ntmps7
  go_wp2_with fail
  refine (law07_awake w).mono ?_
  rintro y w0 ⟨rfl, hb0⟩
  by_cases hbig : (2000 : Int) < (s.size : Int)
  · go_wp2
    go_ret
    exact ⟨rfl, hb0⟩
  · go_wp2_with fail
    refine frame_New _ ?_
    intro k z w1 hcd hk hz0 hb1
    have hk := Nat.le_trans hb0.size hk
    have hz0 := Nat.le_trans hb0.size hz0
    have hb1 := hb0.trans (hb1.mono hb0.size)
    go_wp2_with fail
    refine frame_Decode _ _ s _ hcd hs ?_
    rw [HD.out]; dsimp only
    intro w2 hcd2 hx2
    have hb2 := below_ext hb1 (Nat.le_refl _) hx2 (fun b hb => by injection hb with hb; omega)
    clear hcd hx2 hb1 hb0
    go_upto_region 7 with fail
    have hA3 : Blk (w2.alloc (.cells #[.int .u8 v, .int .u8 kd, .string p] 39)) w2.heap.size 39 #[.int .u8 v, .int .u8 kd, .string p] := Blk.new _ _ _
    have hb3 := hb2.alloc hb2.size (.cells #[.int .u8 v, .int .u8 kd, .string p] 39)
    have hcd3 := hcd2.ext (S := fun _ => False) ((Ext.refl _ w2).alloc (.cells #[.int .u8 v, .int .u8 kd, .string p] 39)) (fun _ _ h => h) (fun _ _ h => h)
    have hAB := hb2.size
    have hkA : k ≠ w2.heap.size := Nat.ne_of_lt (hcd2.lt.1 _ rfl)
    have hzA : z ≠ w2.heap.size := Nat.ne_of_lt (hcd2.lt.2 _ rfl)
    generalize (w2.alloc (.cells #[.int .u8 v, .int .u8 kd, .string p] 39)) = w3 at *
    generalize w2.heap.size = A at *
    clear hcd2 hb2
    go_wp2_with fail
    refine ref07_Decode s _ hs ?_
    rw [HD.out]; dsimp only
    intro w4 hb4
    have hA4 := hA3.below hb4 (Blk.lt hA3)
    have hcd4 := hcd3.below hb4 (Nat.le_refl _)
    have hb4 := hb3.trans (hb4.mono hb3.size)
    clear hA3 hcd3 hb3
    go_upto_region 8 with fail
    have hA5 := hA4.alloc (.cells #[.int .u8 v, .int .u8 kd, .string p] 39)
    have hG5 : Blk (w4.alloc (.cells #[.int .u8 v, .int .u8 kd, .string p] 39)) w4.heap.size 39 #[.int .u8 v, .int .u8 kd, .string p] := Blk.new _ _ _
    have hb5 := hb4.alloc hb4.size (.cells #[.int .u8 v, .int .u8 kd, .string p] 39)
    have hcd5 := hcd4.ext (S := fun _ => False) ((Ext.refl _ w4).alloc (.cells #[.int .u8 v, .int .u8 kd, .string p] 39)) (fun _ _ h => h) (fun _ _ h => h)
    generalize (w4.alloc (.cells #[.int .u8 v, .int .u8 kd, .string p] 39)) = w5 at *
    generalize w4.heap.size = G at *
    clear hA4 hcd4 hb4
    have d0 : w5.cell? ⟨A, 0, none⟩ = some (.int .u8 v) := (Blk.cell hA5 0).trans rfl
    have d1 : w5.cell? ⟨A, 1, none⟩ = some (.int .u8 kd) := (Blk.cell hA5 1).trans rfl
    have d2 : w5.cell? ⟨A, 2, none⟩ = some (.string p) := (Blk.cell hA5 2).trans rfl
    have e0 : w5.cell? ⟨G, 0, none⟩ = some (.int .u8 v) := (Blk.cell hG5 0).trans rfl
    have e1 : w5.cell? ⟨G, 1, none⟩ = some (.int .u8 kd) := (Blk.cell hG5 1).trans rfl
    have e2 : w5.cell? ⟨G, 2, none⟩ = some (.string p) := (Blk.cell hG5 2).trans rfl
    go_wp2_with fail
    refine cursor_New s _ ?_
    intro g w6 hc6 hg hb6
    have hA6 := hA5.below hb6 (Blk.lt hA5)
    have hcd6 := hcd5.below hb6 (Nat.le_refl _)
    have hgw : w.heap.size ≤ g := Nat.le_trans hb5.size hg
    have hgk : ∀ x, some (⟨k, 0, none⟩ : Addr) = some x → x.block ≠ g := fun x e => by
      have := hcd5.lt.1 _ e; omega
    have hgz : ∀ x, some z = some x → x ≠ g := fun x e => by
      have := hcd5.lt.2 _ e; omega
    have hgA : g ≠ A := by have := Blk.lt hA5; omega
    have hb6 := hb5.trans (hb6.mono hb5.size)
    clear hA5 hcd5 hb5 d0 d1 d2 e0 e1 e2 hG5
    go_upto_region 11 with fail
    have hr7 : RCur (w6.alloc (.cells #[.string s, .int .i64 0, .int .i64 0] 64)) w6.heap.size s 0 0 := Blk.new _ _ _
    have hc7 : Cur (w6.alloc (.cells #[.string s, .int .i64 0, .int .i64 0] 64)) g s 0 0 := Blk.alloc hc6 _
    have hA7 := hA6.alloc (.cells #[.string s, .int .i64 0, .int .i64 0] 64)
    have hb7 := hb6.alloc hb6.size (.cells #[.string s, .int .i64 0, .int .i64 0] 64)
    have hcd7 := hcd6.ext (S := fun _ => False) ((Ext.refl _ w6).alloc (.cells #[.string s, .int .i64 0, .int .i64 0] 64)) (fun _ _ h => h) (fun _ _ h => h)
    have hrw : w.heap.size ≤ w6.heap.size := hb6.size
    have hrg : w6.heap.size ≠ g := Nat.ne_of_gt (Blk.lt hc6)
    have hrA : w6.heap.size ≠ A := Nat.ne_of_gt (Blk.lt hA6)
    have hrk : ∀ x, some (⟨k, 0, none⟩ : Addr) = some x → x.block ≠ w6.heap.size := fun x e => by
      have := hcd6.lt.1 _ e; omega
    have hrz : ∀ x, some z = some x → x ≠ w6.heap.size := fun x e => by
      have := hcd6.lt.2 _ e; omega
    generalize (w6.alloc (.cells #[.string s, .int .i64 0, .int .i64 0] 64)) = w7 at *
    generalize w6.heap.size = r at *
    clear hc6 hA6 hb6 hcd6
    go_cut [73] (fun s73 wx => s73 = .bool false ∧ Cd wx (some ⟨k, 0, none⟩) (some z) ∧ Blk wx A 39 #[.int .u8 v, .int .u8 kd, .string p] ∧ Below w.heap.size w wx)
    case first =>
      go_region_with (first
        | (go_at_call 33; refine frame_Take _ _ g s 0 0 _ (by exact hc7) (by exact hcd7) hgk hgz (Nat.zero_le _) (by omega) ?_; rw [HT.out]; dsimp only; intro w8 hc8 hcd8 hx8
           have hx8 := hx8.undrew1
           have hr8 := RCur.ext (by exact hr7) hx8 (fun h => h.elim hrg (fun h => hrz _ h rfl))
           have hA8 := Blk.ext (by exact hA7) hx8 (fun h => h.elim (fun h => hgA h.symm) (fun h => hzA (Option.some.inj h)))
           have hb8 := below_ext (by exact hb7) (Nat.le_refl _) hx8 (fun b h => h.elim (fun h => h ▸ hgw) (fun h => (Option.some.inj h) ▸ hz0)))
        | (go_at_call 34; refine ref07_Take r s 0 0 _ (by exact hr8) (Nat.zero_le _) hs ?_; rw [HT.out]; dsimp only; intro w9 hr9 hx9
           have hc9 := Cur.ext (by exact hc8) hx9 (fun h => hrg h.symm)
           have hA9 := Blk.ext (by exact hA8) hx9 (fun h => hrA h.symm)
           have hcd9 := Cd.ext (by exact hcd8) hx9 (fun x e => hrk x e) (fun x e => hrz x e)
           have hb9 := below_self (by exact hb8) (Nat.le_refl _) hx9 hrw
           obtain ⟨c0, c1, c2, f1, f2⟩ := hr9.cells)
        | (go_at_call 35; refine (cursor_Err g s _ e _ (by exact hc9)).mono ?_; rintro y w10 ⟨rfl, rfl⟩)
        | (go_at_call 36; refine (cursor_At g s _ e _ (by exact hc9)).mono ?_; rintro y w10 ⟨rfl, rfl⟩))
      all_goals (
        go_wp2_with fail
        go_meet
        exact ⟨rfl, hcd9, hA9, hb9⟩)
    case rest =>
      obtain ⟨rfl, hcd9, hA9, hb9⟩ := hcut
      by_cases he : e = 0
      · subst he
        obtain rfl := HMN.out rfl
        obtain ⟨hv, hp, hk0, hk1, hnn, hfe⟩ := HBK.out HT.out
        have hv0 : 0 ≤ v := by omega
        have hv1 : v < 256 := by omega
        have hni : (m : Int) ≤ (s.size : Int) := by omega
        have hn0 : (0 : Int) ≤ (m : Int) := by omega
        have HFE := Lib.hid hfe
        clear hfe hv HBK HMN HT HD
        have d0 : wc.cell? ⟨A, 0, none⟩ = some (.int .u8 v) := (Blk.cell hA9 0).trans rfl
        have d1 : wc.cell? ⟨A, 1, none⟩ = some (.int .u8 kd) := (Blk.cell hA9 1).trans rfl
        have d2 : wc.cell? ⟨A, 2, none⟩ = some (.string p) := (Blk.cell hA9 2).trans rfl
        go_wp2_with fail
        refine frame_Encode (some ⟨k, 0, none⟩) (some z) v kd p _ hcd9 (by omega) hv0 hv1 hk0 hk1 ?_
        rw [HFE.out]; dsimp only
        intro w11 hcd11 hx11
        have hb11 := below_ext hb9 (Nat.le_refl _) hx11 (fun b h => (Option.some.inj h) ▸ hz0)
        go_wp2
        go_ret
        exact ⟨rfl, hb11⟩
      · have heb : (e == 0) = false := by simpa using he
        clear he
        go_wp2
        go_ret
        exact ⟨rfl, hb9⟩
end Go.Proofs.Ytkicaiecmipieaa
