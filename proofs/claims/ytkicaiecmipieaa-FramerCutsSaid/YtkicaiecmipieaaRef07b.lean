/- The document's frames (spenceref07): Encode, Decode. -/
import Derived.Deep.RegionHeld3
import Derived.Deep.Cut
import Derived.Test.YtkicaiecmipieaaRef07
import Derived.Test.YtkicaiecmipieaaFrameDec
namespace Go.Proofs.Ytkicaiecmipieaa
open Go.RowKit Go.Lib

set_option maxHeartbeats 2000000 in
set_option maxRecDepth 100000 in
theorem ref07_Decode (s : ByteArray) (w : World) (hs : s.size ≤ 140737488351232) {R : Ending → World → Prop}
    (hR : ∀ w', Below w.heap.size w w' → R (.returned (.tuple #[.agg #[.int .u8 (frD s).1.1, .int .u8 (frD s).1.2.1, .string (frD s).1.2.2], .int .i64 ((frD s).2.1 : Int), .int .i64 (frD s).2.2])) w') :
    Calls Try.prog 31 #[.string s] w R := by
  have HR := Lib.hid hR
  clear hR
  go_enter Try.func31, Try.ntmps31
  go_wp2_with fail
  have hb0 : Below w.heap.size w (w.alloc (.cells #[.int .u8 0, .int .u8 0, .string ⟨#[]⟩] 39)) := (Below.refl _ _).alloc (Nat.le_refl _) _
  have hR0 : Blk (w.alloc (.cells #[.int .u8 0, .int .u8 0, .string ⟨#[]⟩] 39)) w.heap.size 39 #[.int .u8 0, .int .u8 0, .string ⟨#[]⟩] := Blk.new _ _ _
  have hz0 : (w.alloc (.cells #[.int .u8 0, .int .u8 0, .string ⟨#[]⟩] 39)).heap.size = w.heap.size + 1 := by simp
  generalize (w.alloc (.cells #[.int .u8 0, .int .u8 0, .string ⟨#[]⟩] 39)) = w0 at *
  have hc1 : RCur (w0.alloc (.cells #[.string s, .int .i64 0, .int .i64 0] 64)) (w.heap.size + 1) s 0 0 := hz0 ▸ Blk.new _ _ _
  have hR1 := hR0.alloc (.cells #[.string s, .int .i64 0, .int .i64 0] 64)
  have hb1 := hb0.alloc hb0.size (.cells #[.string s, .int .i64 0, .int .i64 0] 64)
  generalize (w0.alloc (.cells #[.string s, .int .i64 0, .int .i64 0] 64)) = w1 at *
  obtain ⟨r, hr⟩ : ∃ r, w.heap.size = r := ⟨_, rfl⟩
  obtain ⟨g, hg⟩ : ∃ g, w.heap.size + 1 = g := ⟨_, rfl⟩
  have hgr : g ≠ r := by omega
  have hgw : w.heap.size ≤ g := by omega
  rw [hr] at hR1
  rw [hg] at hc1
  have HRE := Lib.hid hr
  rw [hg, hr]
  clear hr hg hR0 hb0 hz0
  refine ref07_Take g s 0 0 _ hc1 (Nat.zero_le _) hs ?_
  obtain ⟨v, kd, p, n, e, hq⟩ : ∃ v kd p n e, frT s 0 0 = ((v, kd, p), n, e) := ⟨_, _, _, _, _, rfl⟩
  have hez : e ≠ 0 → v = 0 ∧ kd = 0 ∧ p = ⟨#[]⟩ := by
    intro h
    unfold frT at hq
    injection hq with h1 h2
    injection h2 with h2 h3
    rw [h3, if_pos h] at h1
    injection h1 with h1 h4
    injection h4 with h4 h5
    exact ⟨h1.symm, h4.symm, h5.symm⟩
  unfold frD at HR
  rw [hq] at HR ⊢
  dsimp only at HR ⊢
  clear hq
  intro w2 hc2 hx2
  have hR2 := hR1.ext hx2 (fun e => hgr e.symm)
  have hb2 := below_ext hb1 (Nat.le_refl _) hx2 (fun b hb => by rw [hb]; exact hgw)
  clear hR1 hc1 hb1 hx2
  go_upto_region 3 with fail
  have hb3 := hb2.alloc hb2.size (.cells #[.int .u8 v, .int .u8 kd, .string p] 39)
  have hR3 := hR2.alloc (.cells #[.int .u8 v, .int .u8 kd, .string p] 39)
  have hc3 : RCur (w2.alloc (.cells #[.int .u8 v, .int .u8 kd, .string p] 39)) g s n e := Blk.alloc hc2 _
  have hF3 : Blk (w2.alloc (.cells #[.int .u8 v, .int .u8 kd, .string p] 39)) w2.heap.size 39 #[.int .u8 v, .int .u8 kd, .string p] := Blk.new _ _ _
  have hFr : ¬ w2.heap.size = r := Nat.ne_of_gt (Blk.lt hR2)
  have hrF : ¬ r = w2.heap.size := Nat.ne_of_lt (Blk.lt hR2)
  have hFg : ¬ w2.heap.size = g := Nat.ne_of_gt (Blk.lt hc2)
  have hgF : ¬ g = w2.heap.size := Nat.ne_of_lt (Blk.lt hc2)
  have hrg : ¬ r = g := fun e => hgr e.symm
  have hgr : ¬ g = r := hgr
  generalize (w2.alloc (.cells #[.int .u8 v, .int .u8 kd, .string p] 39)) = w3 at *
  generalize w2.heap.size = F at *
  clear hc2 hR2 hb2
  obtain ⟨c0, c1, c2, f1, f2⟩ := hc3.cells
  have d0 : w3.cell? ⟨r, 0, none⟩ = some (.int .u8 0) := (Blk.cell hR3 0).trans rfl
  have d1 : w3.cell? ⟨r, 1, none⟩ = some (.int .u8 0) := (Blk.cell hR3 1).trans rfl
  have d2 : w3.cell? ⟨r, 2, none⟩ = some (.string ⟨#[]⟩) := (Blk.cell hR3 2).trans rfl
  have g0 := Blk.frozen hR3 0
  have g1 := Blk.frozen hR3 1
  have g2 := Blk.frozen hR3 2
  have k0 : w3.cell? ⟨F, 0, none⟩ = some (.int .u8 v) := (Blk.cell hF3 0).trans rfl
  have k1 : w3.cell? ⟨F, 1, none⟩ = some (.int .u8 kd) := (Blk.cell hF3 1).trans rfl
  have k2 : w3.cell? ⟨F, 2, none⟩ = some (.string p) := (Blk.cell hF3 2).trans rfl
  have hbr : Below w.heap.size w (((w3.setCell ⟨r, 0, none⟩ (.int .u8 v)).setCell ⟨r, 1, none⟩ (.int .u8 kd)).setCell ⟨r, 2, none⟩ (.string p)) := below_ext hb3 (Nat.le_refl _) (((Ext.self w3 r 0 (.int .u8 v)).setCell (p := ⟨r, 1, none⟩) (fun _ => rfl) (.int .u8 kd)).setCell (p := ⟨r, 2, none⟩) (fun _ => rfl) (.string p)) (fun b hb => by rw [hb, HRE.out]; exact Nat.le_refl _)
  have HBR := Lib.hid hbr
  clear hbr
  by_cases he : e = 0
  · subst he
    rw [if_pos rfl] at HR
    go_wp2_with fail
    go_region_held3 (fun w' => w'.cell? ⟨F, 0, none⟩ = some (.int .u8 v) ∧ w'.cell? ⟨F, 1, none⟩ = some (.int .u8 kd) ∧ w'.cell? ⟨F, 2, none⟩ = some (.string p) ∧ w'.cell? ⟨g, 1, none⟩ = some (.int .i64 (n : Int))) (go_keep) (fail)
    go_wp2
    exact bodyPost_ret (v := .tuple #[.agg #[.int .u8 v, .int .u8 kd, .string p], .int .i64 (n : Int), .int .i64 0]) (by simp [results, go_sem, d0, d1, d2]) rfl (HR.out _ (below_drewN HBR.out 1))
  · rw [if_neg he] at HR
    have heb : (e == 0) = false := by simpa using he
    obtain ⟨z1, z2, z3⟩ := hez he
    have HZ1 := Lib.hid z1
    have HZ2 := Lib.hid z2
    have HZ3 := Lib.hid z3
    clear hez he z1 z2 z3
    go_wp2_with fail
    go_region_held3 (fun w' => w'.cell? ⟨F, 0, none⟩ = some (.int .u8 v) ∧ w'.cell? ⟨F, 1, none⟩ = some (.int .u8 kd) ∧ w'.cell? ⟨F, 2, none⟩ = some (.string p) ∧ w'.cell? ⟨g, 2, none⟩ = some (.int .i64 e)) (go_keep) (fail)
    go_wp2
    have e1 : (Value.tuple #[.agg #[.int .u8 v, .int .u8 kd, .string p], .int .i64 0, .int .i64 e]) = .tuple #[.agg #[.int .u8 0, .int .u8 0, .string ⟨#[]⟩], .int .i64 0, .int .i64 e] := by rw [HZ1.out, HZ2.out, HZ3.out]
    have h := HR.out _ (below_drewN HBR.out 1)
    have this := e1 ▸ h
    exact bodyPost_ret (v := .tuple #[.agg #[.int .u8 v, .int .u8 kd, .string p], .int .i64 0, .int .i64 e]) (by simp [results, go_sem, d0, d1, d2]) rfl this
end Go.Proofs.Ytkicaiecmipieaa
