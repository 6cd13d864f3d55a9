/- frame.Decode. -/
import Derived.Deep.RegionHeld3
import Derived.Test.YtkicaiecmipieaaFrameTake
namespace Go.Proofs.Ytkicaiecmipieaa
open Go.RowKit Go.Lib

/-- What Decode answers. -/
def frD (s : ByteArray) : (Int × Int × ByteArray) × Nat × Int :=
  if (frT s 0 0).2.2 = 0 then frT s 0 0 else ((0, 0, ⟨#[]⟩), 0, (frT s 0 0).2.2)

set_option maxHeartbeats 2000000 in
set_option maxRecDepth 100000 in
theorem frame_Decode (P : Option Addr) (Z : Option Nat) (s : ByteArray) (w : World) (h : Cd w P Z) (hs : s.size ≤ 140737488351232) {R : Ending → World → Prop}
    (hR : ∀ w', Cd w' P Z → Ext (fun b => Z = some b) w w' → R (.returned (.tuple #[.agg #[.int .u8 (frD s).1.1, .int .u8 (frD s).1.2.1, .string (frD s).1.2.2], .int .i64 ((frD s).2.1 : Int), .int .i64 (frD s).2.2])) w') :
    Calls Try.prog 29 #[.pointer P, .string s] w R := by
  have HR := Lib.hid hR
  clear hR
  go_enter Try.func29, Try.ntmps29
  go_wp2_with fail
  have hpl := h.lt.1
  have hzl := h.lt.2
  have hb0 : Below w.heap.size w (w.alloc (.cells #[.int .u8 0, .int .u8 0, .string ⟨#[]⟩] 39)) := (Below.refl _ _).alloc (Nat.le_refl _) _
  have hR0 : Blk (w.alloc (.cells #[.int .u8 0, .int .u8 0, .string ⟨#[]⟩] 39)) w.heap.size 39 #[.int .u8 0, .int .u8 0, .string ⟨#[]⟩] := Blk.new _ _ _
  generalize (w.alloc (.cells #[.int .u8 0, .int .u8 0, .string ⟨#[]⟩] 39)) = w0 at *
  obtain ⟨r, hr⟩ : ∃ r, w.heap.size = r := ⟨_, rfl⟩
  rw [hr] at hR0
  have HRE := Lib.hid hr
  rw [hr]
  clear hr
  refine cursor_New s _ ?_
  intro g w1 hc1 hg hb1
  have hrl := Blk.lt hR0
  have hgr : g ≠ r := by omega
  have hR1 := hR0.below hb1 (Blk.lt hR0)
  have hb1 := hb0.trans (hb1.mono hb0.size)
  have hgw : w.heap.size ≤ g := Nat.le_trans hb0.size hg
  have hcd1 := h.below hb1 (Nat.le_refl _)
  clear hR0 hb0 h
  go_wp2_with fail
  refine frame_Take P Z g s 0 0 _ hc1 hcd1 (fun x e => by have := hpl x e; omega) (fun x e => by have := hzl x e; omega) (Nat.zero_le _) (by omega) ?_
  obtain ⟨v, kd, p, n, e, hq⟩ : ∃ v kd p n e, frT s 0 0 = ((v, kd, p), n, e) := ⟨_, _, _, _, _, rfl⟩
  unfold frD at HR
  rw [hq] at HR ⊢
  dsimp only at HR ⊢
  clear hq
  intro w2 hc2 hcd2 hx2
  have hrw : r = w.heap.size := HRE.out.symm
  have hR2 := hR1.ext hx2 (fun e => by
    rcases e with e | e
    · exact hgr e.symm
    · have := hzl _ e; omega)
  have hx2 : Ext (fun b => Z = some b) w w2 := ((Ext.of_below hb1).mono (S' := fun b => Z = some b) (fun b hb e => absurd e (by omega))).trans hx2 (fun b hb e => by
    rcases e with rfl | e
    · omega
    · exact e)
  have HRW := Lib.hid hrw
  clear hR1 hc1 hcd1 hb1 hrw
  go_wp2_with fail
  have hcd3 : Cd (w2.alloc (.cells #[.int .u8 v, .int .u8 kd, .string p] 39)) P Z := hcd2.ext (S := fun _ => False) ((Ext.refl _ _).alloc _) (fun _ _ h => h) (fun _ _ h => h)
  have hx3 := hx2.alloc (.cells #[.int .u8 v, .int .u8 kd, .string p] 39)
  have hR3 := hR2.alloc (.cells #[.int .u8 v, .int .u8 kd, .string p] 39)
  have hc3 : Cur (w2.alloc (.cells #[.int .u8 v, .int .u8 kd, .string p] 39)) g s n e := Blk.alloc hc2 _
  have hF3 : Blk (w2.alloc (.cells #[.int .u8 v, .int .u8 kd, .string p] 39)) w2.heap.size 39 #[.int .u8 v, .int .u8 kd, .string p] := Blk.new _ _ _
  generalize (w2.alloc (.cells #[.int .u8 v, .int .u8 kd, .string p] 39)) = w3 at *
  have hFr : ¬ w2.heap.size = r := Nat.ne_of_gt (Blk.lt hR2)
  have hrF : ¬ r = w2.heap.size := Nat.ne_of_lt (Blk.lt hR2)
  generalize w2.heap.size = F at *
  clear hcd2 hx2 hR2 hc2
  refine (cursor_Err g s n e _ hc3).mono ?_
  rintro x w' ⟨rfl, rfl⟩
  have d0 : w3.cell? ⟨r, 0, none⟩ = some (.int .u8 0) := (Blk.cell hR3 0).trans rfl
  have d1 : w3.cell? ⟨r, 1, none⟩ = some (.int .u8 0) := (Blk.cell hR3 1).trans rfl
  have d2 : w3.cell? ⟨r, 2, none⟩ = some (.string ⟨#[]⟩) := (Blk.cell hR3 2).trans rfl
  have g0 := Blk.frozen hR3 0
  have g1 := Blk.frozen hR3 1
  have g2 := Blk.frozen hR3 2
  have k0 : w3.cell? ⟨F, 0, none⟩ = some (.int .u8 v) := (Blk.cell hF3 0).trans rfl
  have k1 : w3.cell? ⟨F, 1, none⟩ = some (.int .u8 kd) := (Blk.cell hF3 1).trans rfl
  have k2 : w3.cell? ⟨F, 2, none⟩ = some (.string p) := (Blk.cell hF3 2).trans rfl
  have hnr : ∀ b : Nat, b < w.heap.size → b ≠ r := fun b hb => by rw [HRW.out]; exact Nat.ne_of_lt hb
  have hup : ∀ (x : Int) (y : Int) (z : ByteArray) (W : World), Cd W P Z → Ext (fun b => Z = some b) w W →
      Cd (((W.setCell ⟨r, 0, none⟩ (.int .u8 x)).setCell ⟨r, 1, none⟩ (.int .u8 y)).setCell ⟨r, 2, none⟩ (.string z)) P Z ∧
      Ext (fun b => Z = some b) w (((W.setCell ⟨r, 0, none⟩ (.int .u8 x)).setCell ⟨r, 1, none⟩ (.int .u8 y)).setCell ⟨r, 2, none⟩ (.string z)) := by
    intro x y z W hcd hx
    have u1 : Ext (fun b => b = r) W (((W.setCell ⟨r, 0, none⟩ (.int .u8 x)).setCell ⟨r, 1, none⟩ (.int .u8 y)).setCell ⟨r, 2, none⟩ (.string z)) := ((Ext.self W r 0 (.int .u8 x)).setCell (p := ⟨r, 1, none⟩) (fun _ => rfl) (.int .u8 y)).setCell (p := ⟨r, 2, none⟩) (fun _ => rfl) (.string z)
    exact ⟨hcd.ext u1 (fun a e => hnr _ (hpl a e)) (fun a e => hnr _ (hzl a e)), hx.trans u1 (fun b hb e => absurd e (hnr b hb))⟩
  have HUP := Lib.hid hup
  clear hup hnr
  by_cases he : e = 0
  · subst he
    rw [if_pos rfl] at HR
    go_wp2_with fail
    go_region_held3 (fun w' => w'.cell? ⟨F, 0, none⟩ = some (.int .u8 v) ∧ w'.cell? ⟨F, 1, none⟩ = some (.int .u8 kd) ∧ w'.cell? ⟨F, 2, none⟩ = some (.string p)) (go_keep)
      ((first
        | (go_at_call 36; refine (cursor_At g s n 0 _ (by exact hc3)).mono ?_; rintro x w' ⟨rfl, rfl⟩)))
    go_wp2
    obtain ⟨hu1, hu2⟩ := HUP.out v kd p _ hcd3 hx3
    exact bodyPost_ret (v := .tuple #[.agg #[.int .u8 v, .int .u8 kd, .string p], .int .i64 (n : Int), .int .i64 0]) (by simp [results, go_sem, d0, d1, d2]) rfl (HR.out _ hu1 hu2.drew)
  · rw [if_neg he] at HR
    have heb : (e == 0) = false := by simpa using he
    clear he
    go_wp2
    obtain ⟨hu1, hu2⟩ := HUP.out 0 0 ⟨#[]⟩ _ hcd3 hx3
    exact bodyPost_ret (v := .tuple #[.agg #[.int .u8 0, .int .u8 0, .string ⟨#[]⟩], .int .i64 0, .int .i64 e]) (by simp [results, go_sem, d0, d1, d2]) rfl (HR.out _ hu1 hu2)
end Go.Proofs.Ytkicaiecmipieaa
