/- page.Take, page.Decode. -/
import Derived.Test.YtokjkpoegcnijaaPageSlots
namespace Go.Proofs.Ytokjkpoegcnijaa
open Go.RowKit Go.Lib
section
def noPage : PgV := ⟨⟨#[]⟩, false, [], []⟩
/-- The page behind place a. -/
def pgT (s : ByteArray) (a : Nat) (e : Int) : PgV × Nat × Int :=
  let p := blobR s a e 31
  let f := flagR s p.2.1 p.2.2
  if f.1 = true then
    let r := itemsR s f.2.1 f.2.2 p.1
    (if r.2.2 = 0 then ⟨p.1, true, [], r.1⟩ else noPage, r.2)
  else
    let r := slotsR s f.2.1 f.2.2
    (if r.2.2 = 0 then ⟨p.1, false, r.1, []⟩ else noPage, r.2)
/-- The page of a text. -/
def pgD (s : ByteArray) : PgV × Int :=
  let t := pgT s 0 0
  if endR s t.2.1 t.2.2 = 0 then (t.1, 0) else (noPage, endR s t.2.1 t.2.2)
def pgA (g : PgV) (A1 A2 : Option Addr) (c1 c2 : Nat) : Value := .agg #[.string g.pre, .bool g.leaf, .slice A1 g.sl.length c1, .slice A2 g.it.length c2]

theorem set4 (w : World) (r : Nat) (a b c d : Value) : Ext (· = r) w ((((w.setCell ⟨r, 0, none⟩ a).setCell ⟨r, 1, none⟩ b).setCell ⟨r, 2, none⟩ c).setCell ⟨r, 3, none⟩ d) :=
  (((Ext.self w r 0 a).setCell (p := ⟨r, 1, none⟩) (fun _ => rfl) b).setCell (p := ⟨r, 2, none⟩) (fun _ => rfl) c).setCell (p := ⟨r, 3, none⟩) (fun _ => rfl) d

set_option maxHeartbeats 2000000 in
set_option maxRecDepth 100000 in
theorem page_Take (g : Nat) (s : ByteArray) (a : Nat) (e : Int) (w : World) (h : Cur w g s a e) (ha : a ≤ s.size) (hs : s.size ≤ 140737488351232) {R : Ending → World → Prop}
    (hR : ∀ A1 A2 c1 c2 w', Row w' A1 (flat slC (pgT s a e).1.sl) → Row w' A2 (flat itC (pgT s a e).1.it) → (pgT s a e).1.sl.length ≤ 256 → (pgT s a e).1.it.length ≤ 8 → (∀ ad, A1 = some ad → w.heap.size ≤ ad.block) → (∀ ad, A2 = some ad → w.heap.size ≤ ad.block) → Cur w' g s (pgT s a e).2.1 (pgT s a e).2.2 → (pgT s a e).2.1 ≤ s.size → Ext (· = g) w w' → R (.returned (pgA (pgT s a e).1 A1 A2 c1 c2)) w') :
    Calls Try.prog 20 #[.pointer (some ⟨g, 0, none⟩)] w R := by
  have HR := Lib.hid hR
  clear hR
  obtain ⟨r, hr⟩ : ∃ r, pgT s a e = r := ⟨_, rfl⟩
  rw [hr] at HR
  unfold pgT at hr
  go_enter Try.func20, Try.ntmps20
  go_upto_region 1 with fail
  have hb0 := Blk.new w 27 #[.string ⟨#[]⟩, .bool false, .slice none 0 0, .slice none 0 0]
  have hc0 : Cur (w.alloc (.cells #[.string ⟨#[]⟩, .bool false, .slice none 0 0, .slice none 0 0] 27)) g s a e := Blk.alloc h _
  have hx0 : Ext (· = g) w (w.alloc (.cells #[.string ⟨#[]⟩, .bool false, .slice none 0 0, .slice none 0 0] 27)) := (Ext.refl _ _).alloc _
  have hrw : w.heap.size ≤ w.heap.size := Nat.le_refl _
  generalize hw0 : w.alloc (.cells #[.string ⟨#[]⟩, .bool false, .slice none 0 0, .slice none 0 0] 27) = w0 at *
  generalize hrb : w.heap.size = rb at *
  have hg := Blk.lt h
  clear hw0 h
  go_wp2_with fail
  refine blob_Take g s a e 31 w0 hc0 ha (by omega) (by decide) ?_
  have hat := blobR_at (e := e) 31 ha
  generalize blobR s a e 31 = pr at *
  obtain ⟨pre, a1, e1⟩ := pr
  dsimp only at hat hr ⊢
  intro w1 hc1 hx1
  have hb1 := hb0.ext hx1 (fun e => (hb0.ne hc0 (by decide)) e)
  have hx1 := hx0.trans hx1 (fun _ _ h => h)
  clear hb0 hc0 hx0
  go_upto_region 2 with fail
  have hbx := Blk.new w1 27 #[.string pre, .bool false, .slice none 0 0, .slice none 0 0]
  have hbr := hb1.alloc (.cells #[.string pre, .bool false, .slice none 0 0, .slice none 0 0] 27)
  have hcx : Cur (w1.alloc (.cells #[.string pre, .bool false, .slice none 0 0, .slice none 0 0] 27)) g s a1 e1 := Blk.alloc hc1 _
  have hxx := hx1.alloc (.cells #[.string pre, .bool false, .slice none 0 0, .slice none 0 0] 27)
  have hrx : rb ≠ w1.heap.size := fun e => absurd hb1.lt (by omega)
  have hwx : rb ≤ w1.heap.size := Nat.le_of_lt hb1.lt
  generalize hw2 : w1.alloc (.cells #[.string pre, .bool false, .slice none 0 0, .slice none 0 0] 27) = w2 at *
  generalize hbx1 : w1.heap.size = bx at *
  clear hw2 hb1 hc1 hx1 hbx1
  go_wp2_with fail
  refine blob_Flag g s a1 e1 w2 hcx hat (by omega) ?_
  have hat2 := flagR_at (e := e1) hat
  generalize flagR s a1 e1 = fr at *
  obtain ⟨lf, a2, e2⟩ := fr
  dsimp only at hat2 hr ⊢
  intro w3 hc3 hx3
  have hbx3 := hbx.ext hx3 (fun e => (hbx.ne hcx (by decide)) e)
  have hbr3 := hbr.ext hx3 (fun e => (hbr.ne hcx (by decide)) e)
  have hx3 := hxx.trans hx3 (fun _ _ h => h)
  have hgx : bx ≠ g := hbx3.ne hc3 (by decide)
  have hgr : rb ≠ g := hbr3.ne hc3 (by decide)
  have q1 := hbx3.cell 1
  have f1 := hbx3.frozen 1
  dsimp at q1
  clear hbx hbr hcx hxx
  go_upto_region 3 with fail
  have hbx4 : Blk (w3.setCell ⟨bx, 1, none⟩ (.bool lf)) bx 27 #[.string pre, .bool lf, .slice none 0 0, .slice none 0 0] := hbx3.set 1 _
  have hx34 : Ext (· = bx) w3 (w3.setCell ⟨bx, 1, none⟩ (.bool lf)) := Ext.self w3 bx 1 _
  have hbr4 := hbr3.ext hx34 hrx
  have hc4 : Cur (w3.setCell ⟨bx, 1, none⟩ (.bool lf)) g s a2 e2 := hc3.ext hx34 (fun e => hgx e.symm)
  have hx4 : Ext (· = g) w (w3.setCell ⟨bx, 1, none⟩ (.bool lf)) := hx3.trans hx34 (fun b hb e => absurd hb (by omega))
  clear hbx3 hbr3 hc3 hx3 hx34 q1 f1
  generalize w3.setCell ⟨bx, 1, none⟩ (.bool lf) = w4 at *
  have q0 := hbx4.cell 0
  have q1 := hbx4.cell 1
  dsimp at q0 q1
  cases lf
  · rw [if_neg (by decide)] at hr
    go_wp2_with fail
    refine page_slots g s a2 e2 w4 hc4 hat2 hs ?_
    generalize slotsR s a2 e2 = ir at *
    obtain ⟨il, a5, e5⟩ := ir
    dsimp only at hr ⊢
    intro A c l w5 hown hll hle hc5 ha5 hx5
    have hbx5 := hbx4.ext hx5 (fun e => (hbx4.ne hc4 (by decide)) e)
    have hbr5 := hbr4.ext hx5 (fun e => (hbr4.ne hc4 (by decide)) e)
    have hng := hown.lt
    have hw4 : rb ≤ w4.heap.size := by have := hx4.size; omega
    have hx5 := hx4.trans hx5 (fun _ _ h => h)
    have q2 := hbx5.cell 2
    have f2 := hbx5.frozen 2
    dsimp at q2
    clear hbx4 hbr4 hc4 hx4 q0 q1
    go_upto_region 6 with fail
    have hnx := Own.ne hown hbx5 (by decide)
    have hnr := Own.ne hown hbr5 (by decide)
    have hbx6 : Blk (w5.setCell ⟨bx, 2, none⟩ (.slice A l.length c)) bx 27 #[.string pre, .bool false, .slice A l.length c, .slice none 0 0] := hbx5.set 2 _
    have hx56 : Ext (· = bx) w5 (w5.setCell ⟨bx, 2, none⟩ (.slice A l.length c)) := Ext.self w5 bx 2 _
    have hbr6 := hbr5.ext hx56 hrx
    have hc6 : Cur (w5.setCell ⟨bx, 2, none⟩ (.slice A l.length c)) g s a5 e5 := hc5.ext hx56 (fun e => hgx e.symm)
    have hown6 := hown.ext hx56 (fun b hb e => hnx (by rw [hb, e]))
    have hx6 : Ext (· = g) w (w5.setCell ⟨bx, 2, none⟩ (.slice A l.length c)) := hx5.trans hx56 (fun b hb e => absurd hb (by omega))
    clear hbx5 hbr5 hc5 hx5 hx56 q2 f2 hown
    generalize w5.setCell ⟨bx, 2, none⟩ (.slice A l.length c) = w6 at *
    go_wp2_with fail
    refine (cursor_Err g s a5 e5 w6 hc6).mono ?_
    rintro x w' ⟨rfl, rfl⟩
    have q0 := hbx6.cell 0
    have q1 := hbx6.cell 1
    have q2 := hbx6.cell 2
    have q3 := hbx6.cell 3
    have d0 := hbr6.cell 0
    have d1 := hbr6.cell 1
    have d2 := hbr6.cell 2
    have d3 := hbr6.cell 3
    have g0 := hbr6.frozen 0
    have g1 := hbr6.frozen 1
    have g2 := hbr6.frozen 2
    have g3 := hbr6.frozen 3
    dsimp at q0 q1 q2 q3 d0 d1 d2 d3
    by_cases he : e5 = 0
    · subst he
      obtain rfl := hle rfl
      rw [if_pos rfl] at hr
      subst hr
      dsimp only at HR
      go_wp2_with fail
      refine bodyPost_ret (v := .agg #[.string pre, .bool false, .slice A l.length c, .slice none 0 0]) (by simp [results, go_sem, d0, d1, d2, d3]) rfl ?_
      have hset := set4 w6 rb (.string pre) (.bool false) (.slice A l.length c) (.slice none 0 0)
      exact HR.out A none c 0 _ (Row.of_own (hown6.ext hset (fun b hb e => hnr (by rw [hb, e])))) (Row.nil _ _) hll (by decide) (fun ad e => Nat.le_trans hw4 (hng ad.block (by rw [e]; rfl)).1) (fun _ e => by cases e) (hc6.ext hset (fun e => hgr e.symm)) ha5 (hx6.trans hset (fun b hb e => absurd hb (by omega)))
    · have heb : (e5 != 0) = true := by simpa using he
      rw [if_neg he] at hr
      subst hr
      dsimp only [noPage] at HR
      go_wp2_with fail
      refine bodyPost_ret (v := .agg #[.string ⟨#[]⟩, .bool false, .slice none 0 0, .slice none 0 0]) (by simp [results, go_sem, d0, d1, d2, d3]) rfl ?_
      have hset := set4 w6 rb (.string ⟨#[]⟩) (.bool false) (.slice none 0 0) (.slice none 0 0)
      exact HR.out none none 0 0 _ (Row.nil _ _) (Row.nil _ _) (by decide) (by decide) (fun _ e => by cases e) (fun _ e => by cases e) (hc6.ext hset (fun e => hgr e.symm)) ha5 (hx6.trans hset (fun b hb e => absurd hb (by omega)))
  · rw [if_pos rfl] at hr
    go_wp2_with fail
    refine page_items g s a2 e2 pre w4 hc4 hat2 hs ?_
    generalize itemsR s a2 e2 pre = ir at *
    obtain ⟨il, a5, e5⟩ := ir
    dsimp only at hr ⊢
    intro A c l w5 hown hll hle hc5 ha5 hx5
    have hbx5 := hbx4.ext hx5 (fun e => (hbx4.ne hc4 (by decide)) e)
    have hbr5 := hbr4.ext hx5 (fun e => (hbr4.ne hc4 (by decide)) e)
    have hng := hown.lt
    have hw4 : rb ≤ w4.heap.size := by have := hx4.size; omega
    have hx5 := hx4.trans hx5 (fun _ _ h => h)
    have q3 := hbx5.cell 3
    have f3 := hbx5.frozen 3
    dsimp at q3
    clear hbx4 hbr4 hc4 hx4 q0 q1
    go_upto_region 6 with fail
    have hnx := Own.ne hown hbx5 (by decide)
    have hnr := Own.ne hown hbr5 (by decide)
    have hbx6 : Blk (w5.setCell ⟨bx, 3, none⟩ (.slice A l.length c)) bx 27 #[.string pre, .bool true, .slice none 0 0, .slice A l.length c] := hbx5.set 3 _
    have hx56 : Ext (· = bx) w5 (w5.setCell ⟨bx, 3, none⟩ (.slice A l.length c)) := Ext.self w5 bx 3 _
    have hbr6 := hbr5.ext hx56 hrx
    have hc6 : Cur (w5.setCell ⟨bx, 3, none⟩ (.slice A l.length c)) g s a5 e5 := hc5.ext hx56 (fun e => hgx e.symm)
    have hown6 := hown.ext hx56 (fun b hb e => hnx (by rw [hb, e]))
    have hx6 : Ext (· = g) w (w5.setCell ⟨bx, 3, none⟩ (.slice A l.length c)) := hx5.trans hx56 (fun b hb e => absurd hb (by omega))
    clear hbx5 hbr5 hc5 hx5 hx56 q3 f3 hown
    generalize w5.setCell ⟨bx, 3, none⟩ (.slice A l.length c) = w6 at *
    go_wp2_with fail
    refine (cursor_Err g s a5 e5 w6 hc6).mono ?_
    rintro x w' ⟨rfl, rfl⟩
    have q0 := hbx6.cell 0
    have q1 := hbx6.cell 1
    have q2 := hbx6.cell 2
    have q3 := hbx6.cell 3
    have d0 := hbr6.cell 0
    have d1 := hbr6.cell 1
    have d2 := hbr6.cell 2
    have d3 := hbr6.cell 3
    have g0 := hbr6.frozen 0
    have g1 := hbr6.frozen 1
    have g2 := hbr6.frozen 2
    have g3 := hbr6.frozen 3
    dsimp at q0 q1 q2 q3 d0 d1 d2 d3
    by_cases he : e5 = 0
    · subst he
      obtain rfl := hle rfl
      rw [if_pos rfl] at hr
      subst hr
      dsimp only at HR
      go_wp2_with fail
      refine bodyPost_ret (v := .agg #[.string pre, .bool true, .slice none 0 0, .slice A l.length c]) (by simp [results, go_sem, d0, d1, d2, d3]) rfl ?_
      have hset := set4 w6 rb (.string pre) (.bool true) (.slice none 0 0) (.slice A l.length c)
      exact HR.out none A 0 c _ (Row.nil _ _) (Row.of_own (hown6.ext hset (fun b hb e => hnr (by rw [hb, e])))) (by decide) hll (fun _ e => by cases e) (fun ad e => Nat.le_trans hw4 (hng ad.block (by rw [e]; rfl)).1) (hc6.ext hset (fun e => hgr e.symm)) ha5 (hx6.trans hset (fun b hb e => absurd hb (by omega)))
    · have heb : (e5 != 0) = true := by simpa using he
      rw [if_neg he] at hr
      subst hr
      dsimp only [noPage] at HR
      go_wp2_with fail
      refine bodyPost_ret (v := .agg #[.string ⟨#[]⟩, .bool false, .slice none 0 0, .slice none 0 0]) (by simp [results, go_sem, d0, d1, d2, d3]) rfl ?_
      have hset := set4 w6 rb (.string ⟨#[]⟩) (.bool false) (.slice none 0 0) (.slice none 0 0)
      exact HR.out none none 0 0 _ (Row.nil _ _) (Row.nil _ _) (by decide) (by decide) (fun _ e => by cases e) (fun _ e => by cases e) (hc6.ext hset (fun e => hgr e.symm)) ha5 (hx6.trans hset (fun b hb e => absurd hb (by omega)))

set_option maxHeartbeats 2000000 in
set_option maxRecDepth 100000 in
theorem page_Decode (s : ByteArray) (w : World) (hs : s.size ≤ 140737488351232) {R : Ending → World → Prop}
    (hR : ∀ A1 A2 c1 c2 w', Row w' A1 (flat slC (pgD s).1.sl) → Row w' A2 (flat itC (pgD s).1.it) → (pgD s).1.sl.length ≤ 256 → (pgD s).1.it.length ≤ 8 → Below w.heap.size w w' → R (.returned (.tuple #[pgA (pgD s).1 A1 A2 c1 c2, .int .i64 (pgD s).2])) w') :
    Calls Try.prog 14 #[.string s] w R := by
  have HR := Lib.hid hR
  clear hR
  obtain ⟨r, hr⟩ : ∃ r, pgD s = r := ⟨_, rfl⟩
  rw [hr] at HR
  unfold pgD at hr
  go_enter Try.func14, Try.ntmps14
  go_upto_region 1 with fail
  have hb0 := Blk.new w 27 #[.string ⟨#[]⟩, .bool false, .slice none 0 0, .slice none 0 0]
  have hx0 : Below w.heap.size w (w.alloc (.cells #[.string ⟨#[]⟩, .bool false, .slice none 0 0, .slice none 0 0] 27)) := ((Ext.refl (fun _ => False) w).alloc _).below (Nat.le_refl _) (fun _ _ h => h)
  have hrw : w.heap.size ≤ w.heap.size := Nat.le_refl _
  generalize hw0 : w.alloc (.cells #[.string ⟨#[]⟩, .bool false, .slice none 0 0, .slice none 0 0] 27) = w0 at *
  generalize hrb : w.heap.size = rb at *
  clear hw0
  go_wp2_with fail
  refine cursor_New s w0 ?_
  intro g w1 hc1 hg hb1
  have hbr1 := hb0.below hb1 hb0.lt
  have hx1 := hx0.trans (hb1.mono (by have := hb0.lt; omega))
  have hgw : rb ≤ g := by have := hb0.lt; omega
  have hgr : rb ≠ g := hbr1.ne hc1 (by decide)
  clear hb0 hx0 hb1
  go_wp2_with fail
  refine page_Take g s 0 0 w1 hc1 (Nat.zero_le _) hs ?_
  generalize pgT s 0 0 = tr at *
  obtain ⟨pg, a2, e2⟩ := tr
  dsimp only at hr ⊢
  intro A1 A2 c1 c2 w2 h1 h2 hl1 hl2 hA1 hA2 hc2 ha2 hx2
  have hbr2 := hbr1.ext hx2 hgr
  have hx2 : Below rb w w2 := below_ext hx1 (by omega) hx2 (fun b e => e ▸ hgw)
  have hrw1 : rb < w1.heap.size := hbr1.lt
  have hgw1 : g < w1.heap.size := hc1.lt
  clear hbr1 hc1 hx1
  unfold pgA at *
  go_upto_region 3 with fail
  have hbx := Blk.new w2 27 #[.string pg.pre, .bool pg.leaf, .slice A1 pg.sl.length c1, .slice A2 pg.it.length c2]
  have hbr := hbr2.alloc (.cells #[.string pg.pre, .bool pg.leaf, .slice A1 pg.sl.length c1, .slice A2 pg.it.length c2] 27)
  have hcx : Cur (w2.alloc (.cells #[.string pg.pre, .bool pg.leaf, .slice A1 pg.sl.length c1, .slice A2 pg.it.length c2] 27)) g s a2 e2 := Blk.alloc hc2 _
  have h1 := h1.alloc (.cells #[.string pg.pre, .bool pg.leaf, .slice A1 pg.sl.length c1, .slice A2 pg.it.length c2] 27)
  have h2 := h2.alloc (.cells #[.string pg.pre, .bool pg.leaf, .slice A1 pg.sl.length c1, .slice A2 pg.it.length c2] 27)
  have hxx := hx2.alloc (by have := hx2.size; omega) (.cells #[.string pg.pre, .bool pg.leaf, .slice A1 pg.sl.length c1, .slice A2 pg.it.length c2] 27)
  have hrx : rb ≠ w2.heap.size := fun e => absurd hbr2.lt (by omega)
  generalize hw2 : w2.alloc (.cells #[.string pg.pre, .bool pg.leaf, .slice A1 pg.sl.length c1, .slice A2 pg.it.length c2] 27) = w3 at *
  generalize hbx1 : w2.heap.size = bx at *
  clear hw2 hc2 hx2 hbx1 hbr2
  go_wp2_with fail
  refine cursor_End g s a2 e2 w3 hcx ha2 (by omega) ?_
  generalize endR s a2 e2 = e3 at *
  intro w4 hc4 hx4
  have hxb := hbx.ext hx4 (fun e => (hbx.ne hcx (by decide)) e)
  have hbr4 := hbr.ext hx4 hgr
  have h1 := h1.ext hx4 (fun ad e _ hS => by have := hA1 ad e; omega)
  have h2 := h2.ext hx4 (fun ad e _ hS => by have := hA2 ad e; omega)
  have hx4 : Below rb w w4 := below_ext hxx (by omega) hx4 (fun b e => e ▸ hgw)
  clear hbx hbr hcx hxx
  have d0 := hbr4.cell 0
  have d1 := hbr4.cell 1
  have d2 := hbr4.cell 2
  have d3 := hbr4.cell 3
  have q0 := hxb.cell 0
  have q1 := hxb.cell 1
  have q2 := hxb.cell 2
  have q3 := hxb.cell 3
  have g0 := hbr4.frozen 0
  have g1 := hbr4.frozen 1
  have g2 := hbr4.frozen 2
  have g3 := hbr4.frozen 3
  dsimp at q0 q1 q2 q3 d0 d1 d2 d3
  by_cases he : e3 = 0
  · subst he
    rw [if_pos rfl] at hr
    subst hr
    dsimp only at HR
    go_wp2_with fail
    refine bodyPost_ret (v := .tuple #[.agg #[.string pg.pre, .bool pg.leaf, .slice A1 pg.sl.length c1, .slice A2 pg.it.length c2], .int .i64 0]) (by simp [results, go_sem, d0, d1, d2, d3]) rfl ?_
    have hset := set4 w4 rb (.string pg.pre) (.bool pg.leaf) (.slice A1 pg.sl.length c1) (.slice A2 pg.it.length c2)
    exact HR.out A1 A2 c1 c2 _ (h1.ext hset (fun ad e _ hS => by have := hA1 ad e; omega)) (h2.ext hset (fun ad e _ hS => by have := hA2 ad e; omega)) hl1 hl2 (below_ext hx4 (by omega) hset (fun b e => Nat.le_of_eq e.symm))
  · have heb : (e3 != 0) = true := by simpa using he
    rw [if_neg he] at hr
    subst hr
    dsimp only [noPage] at HR
    go_wp2_with fail
    refine bodyPost_ret (v := .tuple #[.agg #[.string ⟨#[]⟩, .bool false, .slice none 0 0, .slice none 0 0], .int .i64 e3]) (by simp [results, go_sem, d0, d1, d2, d3]) rfl ?_
    have hset := set4 w4 rb (.string ⟨#[]⟩) (.bool false) (.slice none 0 0) (.slice none 0 0)
    exact HR.out none none 0 0 _ (Row.nil _ _) (Row.nil _ _) (by decide) (by decide) (below_ext hx4 (by omega) hset (fun b e => Nat.le_of_eq e.symm))
end
end Go.Proofs.Ytokjkpoegcnijaa
