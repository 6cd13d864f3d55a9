/- frame.Encode. -/
import Derived.Test.YtkicaiecmipieaaFrame
import Derived.Test.YtkicaiecmipieaaFrameMath
namespace Go.Proofs.Ytkicaiecmipieaa
open Go.RowKit Go.Lib

theorem IntsAt.new2 (k : IntKind) (w : World) (x y : Int) (t : TypeId) : IntsAt k (w.alloc (.cells #[.int k x, .int k y] t)) (some ⟨w.heap.size, 0, none⟩) 2 [x, y] :=
  ⟨rfl, fun i hi => by
    have h := Blk.new w t #[.int k x, .int k y]
    refine ⟨_, rfl, ?_, by simp⟩
    match i, hi with
    | 0, _ => exact h.cell 0
    | 1, _ => exact h.cell 1⟩
theorem penPut_ok (t s : ByteArray) (max : Int) (h : (s.size : Int) ≤ max - t.size) : penPut t max 0 s = (t ++ s, 0) := by unfold penPut; rw [if_pos rfl, if_pos h]

set_option maxRecDepth 100000 in
theorem body_puts (v kd : Int) (p : ByteArray) (hp : p.size ≤ 65536) :
    penPuts ⟨#[]⟩ 65547 0 ([v, kd].map one) = (one v ++ one kd, 0) ∧ blobPut (one v ++ one kd) 65547 0 65536 p = (bodyF v kd p, 0) := by
  have hz := encR_size p.size
  have h2 : (one v ++ one kd).size = 2 := by rw [ByteArray.size_append]; rfl
  constructor
  · show penPut (penPut ⟨#[]⟩ 65547 0 (one v)).1 65547 (penPut ⟨#[]⟩ 65547 0 (one v)).2 (one kd) = _
    rw [penPut_ok _ _ _ (by rw [one_size]; decide)]
    dsimp only
    rw [penPut_ok _ _ _ (by rw [one_size, empty_append, one_size]; decide), empty_append]
  · have hm : blobPut (one v ++ one kd) 65547 0 65536 p = penPuts (one v ++ one kd) 65547 0 [encR p.size, p] := if_neg (Nat.not_lt.2 hp)
    have hm2 : ∀ t x y, penPuts t 65547 0 [x, y] = penPut (penPut t 65547 0 x).1 65547 (penPut t 65547 0 x).2 y := fun _ _ _ => rfl
    rw [hm, hm2]
    have he : (encR p.size).size ≤ 3 := encR_three p.size (by omega)
    rw [penPut_ok _ _ _ (by rw [h2]; omega)]
    dsimp only
    rw [penPut_ok _ _ _ (by rw [ByteArray.size_append, h2]; omega)]
    rfl
set_option maxRecDepth 100000 in
theorem out_puts (b : ByteArray) (hb : b.size ≤ 65541) (n : Nat) (hn : n < 4294967296) :
    penPuts ⟨#[]⟩ 65547 0 [⟨#[215, 78]⟩, b] = (⟨#[215, 78]⟩ ++ b, 0) ∧ fixAll (⟨#[215, 78]⟩ ++ b) 65547 0 4 [n] = (⟨#[215, 78]⟩ ++ b ++ beB 4 n, 0) := by
  have h2 : (⟨#[215, 78]⟩ : ByteArray).size = 2 := rfl
  constructor
  · show penPut (penPut ⟨#[]⟩ 65547 0 ⟨#[215, 78]⟩).1 65547 (penPut ⟨#[]⟩ 65547 0 ⟨#[215, 78]⟩).2 b = _
    rw [penPut_ok _ _ _ (by rw [h2]; decide)]
    dsimp only
    rw [empty_append, penPut_ok _ _ _ (by rw [h2]; omega)]
  · unfold fixAll
    rw [if_pos (by rfl)]
    show fixPut _ 65547 0 4 n = _
    unfold fixPut
    rw [if_neg (by rw [Nat.div_eq_of_lt (by simpa using hn)]; decide), penPut_ok _ _ _ (by rw [beB_size, ByteArray.size_append, h2]; omega)]


set_option maxHeartbeats 2000000 in
set_option maxRecDepth 100000 in
theorem frame_Encode (P : Option Addr) (Z : Option Nat) (v kd : Int) (p : ByteArray) (w : World) (h : Cd w P Z) (hp : p.size ≤ 140737488351232) (hv0 : 0 ≤ v) (hv1 : v < 256) (hk0 : 0 ≤ kd) (hk1 : kd < 256) {R : Ending → World → Prop}
    (hR : ∀ w', Cd w' P Z → Ext (fun b => Z = some b) w w' → R (.returned (.tuple #[.string (frameEnc v kd p).1, .int .i64 (frameEnc v kd p).2])) w') :
    Calls Try.prog 28 #[.pointer P, .agg #[.int .u8 v, .int .u8 kd, .string p]] w R := by
  by_cases hv : v = 1 ∨ v = 2
  · have hvd : decide (v = 1 ∨ v = 2) = true := decide_eq_true hv
    have HV := Lib.hid hvd
    clear hvd
    by_cases hbig : 65536 < p.size
    · have he : frameEnc v kd p = (⟨#[]⟩, 3) := by unfold frameEnc; rw [if_neg (fun h => h hv), if_pos hbig]
      rw [he] at hR
      have HR := Lib.hid hR
      have hpb : penPuts ⟨#[]⟩ 65547 0 ([v, kd].map one) = (one v ++ one kd, 0) := (body_puts v kd ⟨#[]⟩ (by decide)).1
      have hbp : blobPut (one v ++ one kd) 65547 0 65536 p = (one v ++ one kd, 3) := by unfold blobPut; rw [if_pos hbig, if_pos rfl]
      have HP1 := Lib.hid hpb
      have HP2 := Lib.hid hbp
      clear hR hv he hpb hbp
      go_enter Try.func28, Try.ntmps28
      go_wp2_with fail
      refine (frame_version v _).mono ?_
      rw [HV.out]
      rintro e w' ⟨rfl, rfl⟩
      go_wp2_with fail
      refine (frame_Sends _).mono ?_
      rintro e w' ⟨rfl, rfl⟩
      go_wp2_with fail
      have hb1 : Below w.heap.size w (w.alloc (.cells #[.int .u8 v, .int .u8 kd, .string p] 39)) := (Below.refl _ _).alloc (Nat.le_refl _) _
      have hB1 : Blk (w.alloc (.cells #[.int .u8 v, .int .u8 kd, .string p] 39)) w.heap.size 39 #[.int .u8 v, .int .u8 kd, .string p] := Blk.new _ _ _
      generalize (w.alloc (.cells #[.int .u8 v, .int .u8 kd, .string p] 39)) = w1 at *
      refine pen_New 65547 w1.heap.size _ ?_
      intro g w2 hp2 hg hb2
      rw [if_neg (by decide)] at hp2
      have hB2 := hB1.below hb2 (Blk.lt hB1)
      have hgl : w.heap.size ≤ g := Nat.le_trans hb1.size hg
      have hb2 := hb1.trans (hb2.mono hb1.size)
      have hB0' : w1.heap.size ≤ g := hg
      have hB0 : w1.heap.size ≤ w2.heap.size := by have := hp2.lt; omega
      have c0 : w2.cell? ⟨w.heap.size, 0, none⟩ = some (.int .u8 v) := (Blk.cell hB2 0).trans rfl
      have c1 : w2.cell? ⟨w.heap.size, 1, none⟩ = some (.int .u8 kd) := (Blk.cell hB2 1).trans rfl
      go_wp2_with fail
      refine pen_Byte w1.heap.size g none ⟨#[]⟩ 65547 0 _ _ _ [v, kd] _ (hp2.alloc _) (Nat.le_trans hB0 (by simp)) (by decide) (by decide) (IntsAt.new2 _ _ _ _ _) (fun b hb => by
        simp only [List.mem_cons, List.not_mem_nil, or_false] at hb
        rcases hb with rfl | rfl
        · exact ⟨hv0, hv1⟩
        · exact ⟨hk0, hk1⟩) (fun ad e _ => by injection e with e; subst e; exact hp2.new) (by show 0 + (1 + (1 + 0)) ≤ _; decide) (by decide) ?_
      rw [HP1.out]; dsimp only
      intro w3 o3 hp3 ho3 hx3
      have hbw3 : Blk w3 w.heap.size 39 #[.int .u8 v, .int .u8 kd, .string p] := (hB2.alloc _).ext hx3 (fun hs => by
        rcases hs with hs | hs
        · have := Blk.lt hB1; omega
        · cases hs)
      have hb3 : Below w.heap.size w w3 := below_ext (hb2.alloc hb2.size _) (Nat.le_refl _) hx3 (fun b hs => by
        rcases hs with rfl | hs
        · exact hgl
        · cases hs)
      clear c0 c1 hB2 hp2 hx3
      have c2 : w3.cell? ⟨w.heap.size, 2, none⟩ = some (.string p) := (Blk.cell hbw3 2).trans rfl
      go_wp2_with fail
      refine blob_Put w1.heap.size g o3 (one v ++ one kd) 65547 0 65536 _ _ p _ (hp3.alloc _) (Nat.le_trans (by have := hp3.lt; have := hb3.size; omega) (by simp : w3.heap.size ≤ _)) (by decide) (by decide) (StrsAt.new1 _ _ _) (fun ad e => by injection e with e; subst e; exact hp3.new) (by rw [show (one v ++ one kd).size = 2 from rfl]; omega) (by decide) ?_
      rw [HP2.out]; dsimp only
      intro w4 o4 hp4 ho4 hx4
      have hb4 : Below w.heap.size w w4 := below_ext (hb3.alloc hb3.size _) (Nat.le_refl _) hx4 (fun b hs => by
        rcases hs with rfl | hs
        · exact hgl
        · exact Nat.le_trans hb1.size (hp3.own hs).1)
      have hW : w1.heap.size ≤ w4.heap.size := Nat.le_of_lt (Nat.lt_of_le_of_lt hB0' hp4.lt)
      clear hp3 hb3 hx4 c2 hbw3 hb2
      go_wp2_with fail
      refine (pen_End w1.heap.size g o4 _ 65547 _ _ hp4).mono ?_
      unfold penEnd
      rintro e w' ⟨rfl, rfl⟩
      rw [if_neg (by decide)]
      go_wp2
      exact HR.out _ (h.below hb4 (Nat.le_refl _)) ((Ext.of_below hb4).mono (fun b hb e => absurd e (by omega)))
    · have he : frameEnc v kd p = (⟨#[215, 78]⟩ ++ bodyF v kd p ++ beB 4 (crcSum (bodyF v kd p)), 0) := by unfold frameEnc; rw [if_neg (fun h => h hv), if_neg hbig]
      rw [he] at hR
      have HR := Lib.hid hR
      have hbs : (bodyF v kd p).size ≤ 65541 := by rw [bodyF_size]; have := encR_three p.size (by omega); omega
      have hcl : crcSum (bodyF v kd p) < 4294967296 := cpl_lt _
      obtain ⟨hpb, hbp⟩ := body_puts v kd p (by omega)
      obtain ⟨hop, hfp⟩ := out_puts (bodyF v kd p) hbs (crcSum (bodyF v kd p)) hcl
      generalize bodyF v kd p = body at *
      have HP1 := Lib.hid hpb
      have HP2 := Lib.hid hbp
      have HP3 := Lib.hid hop
      have HP4 := Lib.hid hfp
      clear hR hv he hpb hbp hop hfp
      go_enter Try.func28, Try.ntmps28
      go_wp2_with fail
      refine (frame_version v _).mono ?_
      rw [HV.out]
      rintro e w' ⟨rfl, rfl⟩
      go_wp2_with fail
      refine (frame_Sends _).mono ?_
      rintro e w' ⟨rfl, rfl⟩
      go_wp2_with fail
      have hb1 : Below w.heap.size w (w.alloc (.cells #[.int .u8 v, .int .u8 kd, .string p] 39)) := (Below.refl _ _).alloc (Nat.le_refl _) _
      have hB1 : Blk (w.alloc (.cells #[.int .u8 v, .int .u8 kd, .string p] 39)) w.heap.size 39 #[.int .u8 v, .int .u8 kd, .string p] := Blk.new _ _ _
      generalize (w.alloc (.cells #[.int .u8 v, .int .u8 kd, .string p] 39)) = w1 at *
      refine pen_New 65547 w1.heap.size _ ?_
      intro g w2 hp2 hg hb2
      rw [if_neg (by decide)] at hp2
      have hB2 := hB1.below hb2 (Blk.lt hB1)
      have hgl : w.heap.size ≤ g := Nat.le_trans hb1.size hg
      have hb2 := hb1.trans (hb2.mono hb1.size)
      have hB0' : w1.heap.size ≤ g := hg
      have hB0 : w1.heap.size ≤ w2.heap.size := by have := hp2.lt; omega
      have c0 : w2.cell? ⟨w.heap.size, 0, none⟩ = some (.int .u8 v) := (Blk.cell hB2 0).trans rfl
      have c1 : w2.cell? ⟨w.heap.size, 1, none⟩ = some (.int .u8 kd) := (Blk.cell hB2 1).trans rfl
      go_wp2_with fail
      refine pen_Byte w1.heap.size g none ⟨#[]⟩ 65547 0 _ _ _ [v, kd] _ (hp2.alloc _) (Nat.le_trans hB0 (by simp)) (by decide) (by decide) (IntsAt.new2 _ _ _ _ _) (fun b hb => by
        simp only [List.mem_cons, List.not_mem_nil, or_false] at hb
        rcases hb with rfl | rfl
        · exact ⟨hv0, hv1⟩
        · exact ⟨hk0, hk1⟩) (fun ad e _ => by injection e with e; subst e; exact hp2.new) (by show 0 + (1 + (1 + 0)) ≤ _; decide) (by decide) ?_
      rw [HP1.out]; dsimp only
      intro w3 o3 hp3 ho3 hx3
      have hbw3 : Blk w3 w.heap.size 39 #[.int .u8 v, .int .u8 kd, .string p] := (hB2.alloc _).ext hx3 (fun hs => by
        rcases hs with hs | hs
        · have := Blk.lt hB1; omega
        · cases hs)
      have hb3 : Below w.heap.size w w3 := below_ext (hb2.alloc hb2.size _) (Nat.le_refl _) hx3 (fun b hs => by
        rcases hs with rfl | hs
        · exact hgl
        · cases hs)
      clear c0 c1 hB2 hp2 hx3
      have c2 : w3.cell? ⟨w.heap.size, 2, none⟩ = some (.string p) := (Blk.cell hbw3 2).trans rfl
      go_wp2_with fail
      refine blob_Put w1.heap.size g o3 (one v ++ one kd) 65547 0 65536 _ _ p _ (hp3.alloc _) (Nat.le_trans (by have := hp3.lt; have := hb3.size; omega) (by simp : w3.heap.size ≤ _)) (by decide) (by decide) (StrsAt.new1 _ _ _) (fun ad e => by injection e with e; subst e; exact hp3.new) (by rw [show (one v ++ one kd).size = 2 from rfl]; omega) (by decide) ?_
      rw [HP2.out]; dsimp only
      intro w4 o4 hp4 ho4 hx4
      have hb4 : Below w.heap.size w w4 := below_ext (hb3.alloc hb3.size _) (Nat.le_refl _) hx4 (fun b hs => by
        rcases hs with rfl | hs
        · exact hgl
        · exact Nat.le_trans hb1.size (hp3.own hs).1)
      have hW : w1.heap.size ≤ w4.heap.size := Nat.le_of_lt (Nat.lt_of_le_of_lt hB0' hp4.lt)
      clear hp3 hb3 hx4 c2 hbw3 hb2
      go_wp2_with fail
      refine (pen_End w1.heap.size g o4 _ 65547 _ _ hp4).mono ?_
      unfold penEnd
      rintro e w' ⟨rfl, rfl⟩
      rw [if_pos rfl]
      go_wp2_with fail
      refine (frame_Sends _).mono ?_
      rintro e w' ⟨rfl, rfl⟩
      go_wp2_with fail
      refine pen_New 65547 w4.heap.size _ ?_
      intro g2 w5 hp5 hg5 hb5
      rw [if_neg (by decide)] at hp5
      have hg5l := hp5.lt
      have hb5 := hb4.trans (hb5.mono hb4.size)
      clear hb4 hp4
      go_wp2_with fail
      refine pen_Text w4.heap.size g2 none ⟨#[]⟩ 65547 0 _ _ _ [⟨#[215, 78]⟩, body] _ (hp5.alloc _) (Nat.le_trans (Nat.le_trans hg5 (Nat.le_of_lt hg5l)) (by simp)) (by decide) (by decide) (StrsAt.new2 _ _ _ _) (fun ad e _ => by injection e with e; subst e; exact hp5.new) (by show 0 + (2 + (body.size + 0)) ≤ _; omega) (by decide) ?_
      rw [HP3.out]; dsimp only
      intro w6 o6 hp6 ho6 hx6
      have hg2 : w.heap.size ≤ g2 := Nat.le_trans (Nat.le_trans hb1.size hW) hg5
      have hb6 : Below w.heap.size w w6 := below_ext (hb5.alloc hb5.size _) (Nat.le_refl _) hx6 (fun b hs => by
        rcases hs with rfl | hs
        · exact hg2
        · cases hs)
      have ho6b : ∀ k, o6 = some k → w.heap.size ≤ k := fun k e => Nat.le_trans (Nat.le_trans hb1.size hW) (hp6.own e).1
      clear hp5 hb5 hx6
      go_wp2_with fail
      refine frame_sum P Z body _ (h.below hb6 (Nat.le_refl _)) (by omega) ?_
      generalize hcc : crcSum body = c at *
      intro w7 hcd7 hx7
      have hzl := h.lt.2
      have hpl := h.lt.1
      have hp7 := hp6.ext hx7 (fun e => by have := hzl _ e; omega) (fun k hk e => by have := hzl _ e; have := ho6b k hk; omega)
      have hx7' : Ext (fun b => Z = some b) w w7 := ((Ext.of_below hb6).mono (S' := fun b => Z = some b) (fun b hb e => absurd e (by omega))).trans hx7 (fun _ _ e => e)
      clear hp6 hb6 hx7
      go_wp2_with fail
      refine fixed_Put 4 w4.heap.size g2 o6 _ 65547 0 _ 1 1 [c] _ (hp7.alloc _) (Nat.le_trans (Nat.le_trans hg5 (Nat.le_of_lt hp7.lt)) (by simp)) (by decide) (by decide) (IntsAt.new1 _ _ _ _) (fun x hx => by rw [List.mem_singleton.1 hx]; omega) (fun ad e _ => by injection e with e; subst e; exact hp7.new) (by rw [ByteArray.size_append]; show 2 + body.size + 1 * 8 ≤ _; omega) (by decide) ?_
      rw [HP4.out]; dsimp only
      intro w8 o8 hp8 ho8 hx8
      have hx8' : Ext (fun b => Z = some b) w w8 := (hx7'.alloc _).trans (S' := fun b => b = g2 ∨ o6 = some b) hx8 (fun b hb e => by
        rcases e with rfl | e
        · omega
        · have := ho6b b e; omega)
      have hcd8 := (hcd7.ext (S := fun _ => False) ((Ext.refl _ _).alloc _) (fun _ _ h => h) (fun _ _ h => h)).ext hx8 (fun x e hs => by
        rcases hs with hs | hs
        · have := hpl x e; omega
        · have := hpl x e; have := ho6b _ hs; omega) (fun x e hs => by
        rcases hs with hs | hs
        · have := hzl x e; omega
        · have := hzl x e; have := ho6b _ hs; omega)
      go_wp2_with fail
      refine (pen_End w4.heap.size g2 o8 _ 65547 0 _ hp8).mono ?_
      rw [show penEnd (⟨#[215, 78]⟩ ++ body ++ beB 4 c) 0 = (⟨#[215, 78]⟩ ++ body ++ beB 4 c, 0) from rfl]
      rintro e w' ⟨rfl, rfl⟩
      go_wp2
      exact HR.out _ hcd8 hx8'
  · have hvd : decide (v = 1 ∨ v = 2) = false := decide_eq_false hv
    have he : frameEnc v kd p = (⟨#[]⟩, 10) := by unfold frameEnc; rw [if_pos hv]
    rw [he] at hR
    have HR := Lib.hid hR
    have HV := Lib.hid hvd
    clear hvd hR hv he
    go_enter Try.func28, Try.ntmps28
    go_wp2_with fail
    refine (frame_version v _).mono ?_
    rw [HV.out]
    rintro e w' ⟨rfl, rfl⟩
    go_wp2
    exact HR.out _ (h.ext (S := fun _ => False) ((Ext.refl _ _).alloc _) (fun _ _ h => h) (fun _ _ h => h)) ((Ext.refl _ _).alloc _)
end Go.Proofs.Ytkicaiecmipieaa
