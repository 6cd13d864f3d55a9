/- spenceref20.Decode. -/
import Derived.Test.YtokjkpoegcnijaaRef20Take
namespace Go.Proofs.Ytokjkpoegcnijaa
open Go.RowKit Go.Lib
section
set_option maxHeartbeats 2000000 in
set_option maxRecDepth 100000 in
theorem ref20_Decode (s : ByteArray) (w : World) (hs : s.size ≤ 140737488351232) {R : Ending → World → Prop}
    (hR : ∀ A1 A2 c1 c2 w', Row w' A1 (flat slC (pgD s).1.sl) → Row w' A2 (flat itC (pgD s).1.it) → (pgD s).1.sl.length ≤ 256 → (pgD s).1.it.length ≤ 8 → Below w.heap.size w w' → R (.returned (.tuple #[pgA (pgD s).1 A1 A2 c1 c2, .int .i64 (pgD s).2])) w') :
    Calls Try.prog 18 #[.string s] w R := by
  have HR := Lib.hid hR
  clear hR
  obtain ⟨r, hr⟩ : ∃ r, pgD s = r := ⟨_, rfl⟩
  rw [hr] at HR
  unfold pgD at hr
  go_enter Try.func18, Try.ntmps18
  go_upto_region 1 with fail
  have hb0 := Blk.new w 27 #[.string ⟨#[]⟩, .bool false, .slice none 0 0, .slice none 0 0]
  have hx0 : Below w.heap.size w (w.alloc (.cells #[.string ⟨#[]⟩, .bool false, .slice none 0 0, .slice none 0 0] 27)) := ((Ext.refl (fun _ => False) w).alloc _).below (Nat.le_refl _) (fun _ _ h => h)
  have hrw : w.heap.size ≤ w.heap.size := Nat.le_refl _
  generalize hw0 : w.alloc (.cells #[.string ⟨#[]⟩, .bool false, .slice none 0 0, .slice none 0 0] 27) = w0 at *
  generalize hrb : w.heap.size = rb at *
  clear hw0
  go_upto_region 2 with fail
  have hc1 : RCur (w0.alloc (.cells #[.string s, .int .i64 0, .int .i64 0] 47)) w0.heap.size s 0 0 := Blk.new _ _ _
  have hbr1 := hb0.alloc (.cells #[.string s, .int .i64 0, .int .i64 0] 47)
  have hx1 := hx0.alloc (by have := hx0.size; omega) (.cells #[.string s, .int .i64 0, .int .i64 0] 47)
  have hgw : rb ≤ w0.heap.size := by have := hb0.lt; omega
  have hgr : rb ≠ w0.heap.size := by have := hb0.lt; omega
  generalize w0.alloc (.cells #[.string s, .int .i64 0, .int .i64 0] 47) = w1 at *
  generalize w0.heap.size = g at *
  clear hb0 hx0
  go_wp2_with fail
  refine ref20_Take g s 0 0 w1 hc1 (Nat.zero_le _) hs ?_
  generalize pgT s 0 0 = tr at *
  obtain ⟨pg, a2, e2⟩ := tr
  dsimp only at hr ⊢
  intro A1 A2 c1 c2 w2 h1 h2 hl1 hl2 hA1 hA2 hc2 ha2 hx2
  have hbr2 := hbr1.ext hx2 hgr
  have hx2 : Below rb w w2 := below_ext hx1 (by omega) hx2 (fun b e => e ▸ hgw)
  have hrw1 : rb < w1.heap.size := hbr1.lt
  have hgw1 : g < w1.heap.size := Blk.lt hc1
  clear hbr1 hc1 hx1
  unfold pgA at *
  go_upto_region 3 with fail
  have hbx := Blk.new w2 27 #[.string pg.pre, .bool pg.leaf, .slice A1 pg.sl.length c1, .slice A2 pg.it.length c2]
  have hbr := hbr2.alloc (.cells #[.string pg.pre, .bool pg.leaf, .slice A1 pg.sl.length c1, .slice A2 pg.it.length c2] 27)
  have hcx : RCur (w2.alloc (.cells #[.string pg.pre, .bool pg.leaf, .slice A1 pg.sl.length c1, .slice A2 pg.it.length c2] 27)) g s a2 e2 := Blk.alloc hc2 _
  have h1 := h1.alloc (.cells #[.string pg.pre, .bool pg.leaf, .slice A1 pg.sl.length c1, .slice A2 pg.it.length c2] 27)
  have h2 := h2.alloc (.cells #[.string pg.pre, .bool pg.leaf, .slice A1 pg.sl.length c1, .slice A2 pg.it.length c2] 27)
  have hxx := hx2.alloc (by have := hx2.size; omega) (.cells #[.string pg.pre, .bool pg.leaf, .slice A1 pg.sl.length c1, .slice A2 pg.it.length c2] 27)
  have hrx : rb ≠ w2.heap.size := fun e => absurd hbr2.lt (by omega)
  generalize hw2 : w2.alloc (.cells #[.string pg.pre, .bool pg.leaf, .slice A1 pg.sl.length c1, .slice A2 pg.it.length c2] 27) = w3 at *
  generalize hbx1 : w2.heap.size = bx at *
  clear hw2 hc2 hx2 hbx1 hbr2
  go_wp2_with fail
  refine ref01_End g s a2 e2 w3 hcx ?_
  generalize endR s a2 e2 = e3 at *
  intro w4 hc4 hx4
  have hxb := hbx.ext hx4 (fun e => (hbx.ne hcx (by decide)) e)
  have hbr4 := hbr.ext hx4 hgr
  have h1 := h1.ext hx4 (fun ad e _ hS => by have := hA1 ad e; omega)
  have h2 := h2.ext hx4 (fun ad e _ hS => by have := hA2 ad e; omega)
  have hx4 : Below rb w w4 := below_ext hxx (by omega) hx4 (fun b e => e ▸ hgw)
  clear hbx hbr hcx hxx
  have d0 := hbr4.cell 0
  have d1 := hbr4.cell 1
  have d2 := hbr4.cell 2
  have d3 := hbr4.cell 3
  have q0 := hxb.cell 0
  have q1 := hxb.cell 1
  have q2 := hxb.cell 2
  have q3 := hxb.cell 3
  have g0 := hbr4.frozen 0
  have g1 := hbr4.frozen 1
  have g2 := hbr4.frozen 2
  have g3 := hbr4.frozen 3
  dsimp at q0 q1 q2 q3 d0 d1 d2 d3
  by_cases he : e3 = 0
  · subst he
    rw [if_pos rfl] at hr
    subst hr
    dsimp only at HR
    go_wp2_with fail
    refine bodyPost_ret (v := .tuple #[.agg #[.string pg.pre, .bool pg.leaf, .slice A1 pg.sl.length c1, .slice A2 pg.it.length c2], .int .i64 0]) (by simp [results, go_sem, d0, d1, d2, d3]) rfl ?_
    have hset := set4 w4 rb (.string pg.pre) (.bool pg.leaf) (.slice A1 pg.sl.length c1) (.slice A2 pg.it.length c2)
    exact HR.out A1 A2 c1 c2 _ (h1.ext hset (fun ad e _ hS => by have := hA1 ad e; omega)) (h2.ext hset (fun ad e _ hS => by have := hA2 ad e; omega)) hl1 hl2 (below_ext hx4 (by omega) hset (fun b e => Nat.le_of_eq e.symm))
  · have heb : (e3 != 0) = true := by simpa using he
    rw [if_neg he] at hr
    subst hr
    dsimp only [noPage] at HR
    go_wp2_with fail
    refine bodyPost_ret (v := .tuple #[.agg #[.string ⟨#[]⟩, .bool false, .slice none 0 0, .slice none 0 0], .int .i64 e3]) (by simp [results, go_sem, d0, d1, d2, d3]) rfl ?_
    have hset := set4 w4 rb (.string ⟨#[]⟩) (.bool false) (.slice none 0 0) (.slice none 0 0)
    exact HR.out none none 0 0 _ (Row.nil _ _) (Row.nil _ _) (by decide) (by decide) (below_ext hx4 (by omega) hset (fun b e => Nat.le_of_eq e.symm))
end
end Go.Proofs.Ytokjkpoegcnijaa
