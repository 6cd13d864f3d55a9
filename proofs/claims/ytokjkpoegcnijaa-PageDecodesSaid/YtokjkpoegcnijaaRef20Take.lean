/- spenceref20.Take, Decode. -/
import Derived.Test.YtokjkpoegcnijaaPageDec
import Derived.Test.YtokjkpoegcnijaaRef20
import Derived.Test.YtokjkpoegcnijaaReadMore
import Derived.Test.YtokjkpoegcnijaaRef20Check
namespace Go.Proofs.Ytokjkpoegcnijaa
open Go.RowKit Go.Lib
section
theorem countR_zero {s : ByteArray} {a : Nat} {e : Int} {m : Nat} (h : (countR s a e m).2.2 ≠ 0) : (countR s a e m).1 = 0 := by
  unfold countR at h ⊢
  split
  · rfl
  · next c =>
    rw [if_neg c] at h
    split
    · rfl
    · next d => rw [if_neg d] at h; exact absurd rfl h
theorem countR_err {s : ByteArray} {a : Nat} {e : Int} {m : Nat} (h : e ≠ 0) : countR s a e m = (0, a, e) := by
  unfold countR; rw [takeR_err s a e h, if_pos h]
theorem itemsR_err {s pre : ByteArray} {a : Nat} {e : Int} (h : e ≠ 0) : itemsR s a e pre = ([], a, e) := by
  unfold itemsR; rw [countR_err h]; dsimp only; rw [if_pos h]
theorem slotsR_err {s : ByteArray} {a : Nat} {e : Int} (h : e ≠ 0) : slotsR s a e = ([], a, e) := by
  unfold slotsR; rw [countR_err h]; dsimp only; rw [if_pos h]
theorem Own.apart {α : Type} {f : α → List Value} {k : Nat} {w w' : World} {B g : Nat} {e t : TypeId} {v : Value} {l : List α} {cs : Array Value} (h : Own w B e k f v l) (hc : Blk w g t cs) (ht : e ≠ t) (hx : Ext (· = g) w w') : Own w' B e k f v l :=
  h.ext hx (fun b hb e => by
    obtain ⟨cs, hcs⟩ := h.blkT hb
    subst e
    exact hcs.ne hc ht rfl)
def zPg : Array Value := #[.string ⟨#[]⟩, .bool false, .slice none 0 0, .slice none 0 0]
/-- Items are read by the reference. -/
def RItRel (W : World) (s pre : ByteArray) (g rb gb n : Nat) (r : List It × Nat × Int) (i : Value) (w : World) : Prop :=
  ∃ (l : List It) (A : Option Addr) (c a : Nat) (e : Int), i = .int .i64 (l.length : Int) ∧ l.length ≤ n ∧ a ≤ s.size ∧ Own w W.heap.size 58 2 itC (.slice A l.length c) l ∧
    Blk w gb 27 #[.string pre, .bool true, .slice none 0 0, .slice A l.length c] ∧ Blk w rb 27 zPg ∧ RCur w g s a e ∧ Ext (· = g) W w ∧ (keyL l).size ≤ 32 ∧
    ((e = 0 ∧ ∃ q, itL s pre (n - l.length) a (keyL l) (decide (l.length = 0)) = q ∧ r = (l ++ q.1, q.2)) ∨ (e ≠ 0 ∧ n = 0 ∧ r = ([], a, e)))
def RSlRel (W : World) (s pre : ByteArray) (g rb gb n : Nat) (r : List Sl × Nat × Int) (i : Value) (w : World) : Prop :=
  ∃ (l : List Sl) (A : Option Addr) (c a : Nat) (e : Int), i = .int .i64 (l.length : Int) ∧ l.length ≤ n ∧ a ≤ s.size ∧ Own w W.heap.size 29 2 slC (.slice A l.length c) l ∧
    Blk w gb 27 #[.string pre, .bool false, .slice A l.length c, .slice none 0 0] ∧ Blk w rb 27 zPg ∧ RCur w g s a e ∧ Ext (· = g) W w ∧
    ((e = 0 ∧ ∃ q, slL s (n - l.length) a (lastS l) = q ∧ r = (l ++ q.1, q.2)) ∨ (e ≠ 0 ∧ n = 0 ∧ r = ([], a, e)))





set_option maxHeartbeats 4000000 in
set_option maxRecDepth 100000 in
theorem ref20_Take (g : Nat) (s : ByteArray) (a : Nat) (e : Int) (w : World) (h : RCur w g s a e) (ha : a ≤ s.size) (hs : s.size ≤ 140737488351232) {R : Ending → World → Prop}
    (hR : ∀ A1 A2 c1 c2 w', Row w' A1 (flat slC (pgT s a e).1.sl) → Row w' A2 (flat itC (pgT s a e).1.it) → (pgT s a e).1.sl.length ≤ 256 → (pgT s a e).1.it.length ≤ 8 → (∀ ad, A1 = some ad → w.heap.size ≤ ad.block) → (∀ ad, A2 = some ad → w.heap.size ≤ ad.block) → RCur w' g s (pgT s a e).2.1 (pgT s a e).2.2 → (pgT s a e).2.1 ≤ s.size → Ext (· = g) w w' → R (.returned (pgA (pgT s a e).1 A1 A2 c1 c2)) w') :
    Calls Try.prog 21 #[.pointer (some ⟨g, 0, none⟩)] w R := by
  obtain ⟨i0, hi0, hz0, hz1, hz2⟩ := info_parts info_it
  obtain ⟨j0, hj0, hy0, hy1, hy2⟩ := info_parts info_sl
  have HR := Lib.hid hR
  clear hR
  obtain ⟨rr, hr⟩ : ∃ r, pgT s a e = r := ⟨_, rfl⟩
  rw [hr] at HR
  unfold pgT at hr
  go_enter Try.func21, Try.ntmps21
  go_upto_region 1 with fail
  have hrb := Blk.new w 27 zPg
  have hc : RCur (w.alloc (.cells zPg 27)) g s a e := Blk.alloc h _
  have hx : Ext (· = g) w (w.alloc (.cells zPg 27)) := (Ext.refl _ _).alloc _
  have hg := Blk.lt h
  obtain ⟨rb, hrw⟩ : ∃ rb, w.heap.size = rb := ⟨_, rfl⟩
  have hsz : (w.alloc (.cells zPg 27)).heap.size = rb + 1 := by rw [← hrw]; simp
  unfold zPg at hrb hc hx hsz
  rw [hrw] at hrb hg ⊢
  generalize w.alloc (.cells #[.string ⟨#[]⟩, .bool false, .slice none 0 0, .slice none 0 0] 27) = w0 at *
  clear h
  have HSZ := Lib.hid hsz
  clear hsz
  go_upto_region 2 with fail
  have hsz := HSZ.out
  have hgb := Blk.new w0 27 #[.string ⟨#[]⟩, .bool false, .slice none 0 0, .slice none 0 0]
  replace hrb := hrb.alloc (.cells #[.string ⟨#[]⟩, .bool false, .slice none 0 0, .slice none 0 0] 27)
  replace hc : RCur (w0.alloc (.cells #[.string ⟨#[]⟩, .bool false, .slice none 0 0, .slice none 0 0] 27)) g s a e := Blk.alloc hc _
  replace hx := hx.alloc (.cells #[.string ⟨#[]⟩, .bool false, .slice none 0 0, .slice none 0 0] 27)
  obtain ⟨gb, hgw⟩ : ∃ gb, w0.heap.size = gb := ⟨_, rfl⟩
  rw [hgw] at hgb hsz ⊢
  generalize w0.alloc (.cells #[.string ⟨#[]⟩, .bool false, .slice none 0 0, .slice none 0 0] 27) = w1 at *
  have hrg : rb ≠ gb := by omega
  have hgr : g ≠ rb := by omega
  have hgg : gb ≠ g := by omega
  have hgbw : w.heap.size ≤ gb := by omega
  clear HSZ hgw hsz
  go_wp2_with fail
  refine ref06_Take g s a e 31 w1 hc ha hs (by decide) ?_
  have hat := blobR_at (s := s) (e := e) 31 ha
  generalize blobR s a e 31 = pr at *
  obtain ⟨pre, a1, e1⟩ := pr
  dsimp only at hat hr ⊢
  intro w2 hc2 hx2
  replace hgb := hgb.ext hx2 hgg
  replace hrb := hrb.ext hx2 (fun e => hgr e.symm)
  replace hx := hx.trans hx2 (fun _ _ h => h)
  clear hc hx2
  have q0 := hgb.cell 0
  have f0 := hgb.frozen 0
  dsimp at q0
  go_upto_region 3 with fail
  clear q0 f0
  have hse := Ext.self w2 gb 0 (.string pre)
  replace hgb : Blk (w2.setCell ⟨gb, 0, none⟩ (.string pre)) gb 27 #[.string pre, .bool false, .slice none 0 0, .slice none 0 0] := hgb.set 0 _
  replace hrb := hrb.ext hse hrg
  replace hc2 : RCur (w2.setCell ⟨gb, 0, none⟩ (.string pre)) g s a1 e1 := Blk.ext hc2 hse (fun e => hgg e.symm)
  replace hx := hx.setCell (p := ⟨gb, 0, none⟩) (fun h => absurd h (Nat.not_lt.2 hgbw)) (.string pre)
  generalize w2.setCell ⟨gb, 0, none⟩ (.string pre) = w3 at *
  clear hse
  go_wp2_with fail
  refine ref06_Flag g s a1 e1 w3 hc2 hat hs ?_
  have hat2 := flagR_at (e := e1) hat
  generalize flagR s a1 e1 = fr at *
  obtain ⟨lf, a2, e2⟩ := fr
  dsimp only at hat2 hr ⊢
  intro w4 hc4 hx4
  replace hgb := hgb.ext hx4 hgg
  replace hrb := hrb.ext hx4 (fun e => hgr e.symm)
  replace hx := hx.trans hx4 (fun _ _ h => h)
  clear hc2 hx4
  have q1 := hgb.cell 1
  have f1 := hgb.frozen 1
  dsimp at q1
  go_upto_region 4 with fail
  clear q1 f1
  have hse := Ext.self w4 gb 1 (.bool lf)
  replace hgb : Blk (w4.setCell ⟨gb, 1, none⟩ (.bool lf)) gb 27 #[.string pre, .bool lf, .slice none 0 0, .slice none 0 0] := hgb.set 1 _
  replace hrb := hrb.ext hse hrg
  replace hc4 : RCur (w4.setCell ⟨gb, 1, none⟩ (.bool lf)) g s a2 e2 := Blk.ext hc4 hse (fun e => hgg e.symm)
  replace hx := hx.setCell (p := ⟨gb, 1, none⟩) (fun h => absurd h (Nat.not_lt.2 hgbw)) (.bool lf)
  generalize w4.setCell ⟨gb, 1, none⟩ (.bool lf) = w5 at *
  clear hse
  obtain ⟨c0, c1, c2, _, _⟩ := RCur.cells hc4
  by_cases he2 : e2 = 0
  rotate_left
  · have heb : (e2 != 0) = true := by simpa using he2
    have hr2 : rr = (noPage, a2, e2) := by
      rw [← hr]
      cases lf
      · rw [if_neg (by decide), slotsR_err he2]; dsimp only; rw [if_neg he2]
      · rw [if_pos rfl, itemsR_err he2]; dsimp only; rw [if_neg he2]
    subst hr2
    dsimp only [noPage] at HR
    clear hr
    have d0 := hrb.cell 0
    have d1 := hrb.cell 1
    have d2 := hrb.cell 2
    have d3 := hrb.cell 3
    have g0 := hrb.frozen 0
    have g1 := hrb.frozen 1
    have g2 := hrb.frozen 2
    have g3 := hrb.frozen 3
    dsimp [zPg] at d0 d1 d2 d3
    go_wp2_with fail
    refine bodyPost_ret (v := .agg #[.string ⟨#[]⟩, .bool false, .slice none 0 0, .slice none 0 0]) (by simp [results, go_sem, d0, d1, d2, d3]) rfl ?_
    have hset := set4 w5 rb (.string ⟨#[]⟩) (.bool false) (.slice none 0 0) (.slice none 0 0)
    exact HR.out none none 0 0 _ (Row.nil _ _) (Row.nil _ _) (by decide) (by decide) (fun _ e => by cases e) (fun _ e => by cases e) (Blk.ext hc4 hset (fun e => hgr e)) hat2 (hx.trans hset (fun b hb e => absurd hb (by omega)))
  subst he2
  have q1 := hgb.cell 1
  dsimp at q1
  cases lf
  rotate_left
  · rw [if_pos rfl] at hr
    go_wp2_with fail
    refine ref06_Count g s a2 0 8 w5 hc4 hat2 hs (by decide) ?_
    have hcn := countR_le s a2 0 8
    have hca := countR_at (s := s) (e := 0) 8 hat2
    have hcz := @countR_zero s a2 0 8
    obtain ⟨r, hr0⟩ : ∃ r, itemsR s a2 0 pre = r := ⟨_, rfl⟩
    rw [hr0] at hr
    unfold itemsR at hr0
    generalize countR s a2 0 8 = cr at *
    obtain ⟨n, a6, e6⟩ := cr
    dsimp only at hcn hca hcz hr0 hr ⊢
    intro w6 hc6 hx6
    have hn0 : (0 : Int) ≤ (n : Int) := Int.natCast_nonneg _
    replace hgb := hgb.ext hx6 hgg
    replace hrb := hrb.ext hx6 (fun e => hgr e.symm)
    replace hx := hx.trans hx6 (fun _ _ h => h)
    have hst : (e6 = 0 ∧ ∃ q, itL s pre (n - 0) a6 (keyL []) (decide (0 = 0)) = q ∧ r = ([] ++ q.1, q.2)) ∨ (e6 ≠ 0 ∧ n = 0 ∧ r = ([], a6, e6)) := by
      by_cases he : e6 = 0
      · subst he
        rw [if_neg (by decide)] at hr0
        exact .inl ⟨rfl, _, rfl, by rw [← hr0]; rfl⟩
      · rw [if_pos he] at hr0
        exact .inr ⟨he, hcz he, hr0.symm⟩
    subst hr
    dsimp only at HR
    have HST := Lib.hid hst
    clear hst
    clear hr0 hcz hc4 hx6 c0 c1 c2 q1 hat hat2

    go_wp2_with fail
    go_loopw [5] (RItRel w s pre g rb gb n r) (fun i _ => n - (RowKit.intOf i).toNat)
    case atStart => exact ⟨[], none, 0, a6, e6, rfl, Nat.zero_le _, hca, Own.nil _ _ _ _, hgb, hrb, hc6, hx, by decide, HST.out⟩
    case round =>
      clear hgb hrb hc6 hx HST hca
      obtain ⟨l, A, c, a2, e2, rfl, hl, ha2, hown, hgb, hrb, hcur, hext, hkl32, hrst⟩ := hrel
      have hl0 : (0 : Int) ≤ (l.length : Int) := Int.natCast_nonneg _
      by_cases hlt : l.length < n
      · obtain ⟨he2, q, hq, hrq⟩ : e2 = 0 ∧ ∃ q, itL s pre (n - l.length) a2 (keyL l) (decide (l.length = 0)) = q ∧ r = (l ++ q.1, q.2) := by
          rcases hrst with h | ⟨_, h, _⟩
          · exact h
          · omega
        subst he2
        have hlt1 : (l.length : Int) < (n : Int) := by omega
        have hlt2 : decide ((l.length : Int) < (n : Int)) = true := decide_eq_true hlt1
        have hnx : (Value.slice A l.length c).ownBlock ≠ some wr.heap.size := fun e => absurd (hown.lt _ e).2 (Nat.lt_irrefl _)
        have hbw : w.heap.size ≤ wr.heap.size := hext.size
        go_upto_region 12 with fail
        have hba := Blk.new wr 58 #[.string ⟨#[]⟩, .string ⟨#[]⟩]
        replace hcur : RCur (wr.alloc (.cells #[.string ⟨#[]⟩, .string ⟨#[]⟩] 58)) g s a2 0 := Blk.alloc hcur _
        replace hown := hown.alloc (.cells #[.string ⟨#[]⟩, .string ⟨#[]⟩] 58)
        replace hgb := hgb.alloc (.cells #[.string ⟨#[]⟩, .string ⟨#[]⟩] 58)
        replace hrb := hrb.alloc (.cells #[.string ⟨#[]⟩, .string ⟨#[]⟩] 58)
        replace hext := hext.alloc (.cells #[.string ⟨#[]⟩, .string ⟨#[]⟩] 58)
        clear hrst
        generalize hwa : wr.alloc (.cells #[.string ⟨#[]⟩, .string ⟨#[]⟩] 58) = wa at *
        generalize hbx : wr.heap.size = bx at *
        clear hwa hbx
        obtain ⟨r3, hr3⟩ : ∃ r, bytesR s a2 0 32 = r := ⟨_, rfl⟩
        obtain ⟨k, a3, e3⟩ := r3
        have ha3 : a3 ≤ s.size := by have := bytesR_at (err := 0) (n := 32) ha2; rw [hr3] at this; exact this
        have hk32 : k.size ≤ 32 := by
          have z := bytesR_size s a2 0 32
          rw [show ((32 : Nat) : Int) = 32 from rfl, hr3] at z
          dsimp only at z
          omega
        have HB3 := Lib.hid hr3
        have HQ := Lib.hid hq
        have HRQ := Lib.hid hrq
        clear hr3 hq hrq
        go_wp2_with fail
        refine ref01_Bytes g s a2 0 32 wa hcur ha2 hs ?_
        rw [HB3.out]
        dsimp only
        intro w3 hc3 hx3
        have hba3 := hba.ext hx3 (fun e => (hba.ne hcur (by decide)) e)
        have hgb3 := hgb.ext hx3 (fun e => (hgb.ne hcur (by decide)) e)
        have hrb3 := hrb.ext hx3 (fun e => (hrb.ne hcur (by decide)) e)
        have hoa3 := hown.apart hcur (by decide) hx3
        have hxa3 := hext.trans hx3 (fun _ _ h => h)
        have hgx : bx ≠ g := hba3.ne hc3 (by decide)
        clear hba hgb hrb hown hext hcur hx3

        have q0 := hba3.cell 0
        have f0 := hba3.frozen 0
        dsimp at q0
        go_upto_region 13 with fail
        clear q0 f0
        have hse := Ext.self w3 bx 0 (.string k)
        have hba : Blk (w3.setCell ⟨bx, 0, none⟩ (.string k)) bx 58 #[.string k, .string ⟨#[]⟩] := hba3.set 0 _
        have hgb := hgb3.ext hse (fun e => (hgb3.ne hba3 (by decide)) e)
        have hrb := hrb3.ext hse (fun e => (hrb3.ne hba3 (by decide)) e)
        have hown := hoa3.ext hse (fun b hb e => hnx (by rw [hb, e]))
        have hcur : RCur (w3.setCell ⟨bx, 0, none⟩ (.string k)) g s a3 e3 := Blk.ext hc3 hse (fun e => hgx e.symm)
        have hext : Ext (· = g) w (w3.setCell ⟨bx, 0, none⟩ (.string k)) := hxa3.setCell (p := ⟨bx, 0, none⟩) (fun h => absurd h (Nat.not_lt.2 hbw)) _
        clear hba3 hgb3 hrb3 hoa3 hc3 hxa3 hse
        generalize w3.setCell ⟨bx, 0, none⟩ (.string k) = w4 at *

        have q0 := hba.cell 0
        have p0 := hgb.cell 0
        have p3 := hgb.cell 3
        dsimp at q0 p0 p3
        obtain ⟨c0, c1, c2, _, f2⟩ := RCur.cells hcur
        by_cases he3 : e3 = 0
        · subst he3
          go_wp2_with fail
          refine (ref20_Begins k pre w4).mono ?_
          rintro x w' ⟨rfl, nq, rfl⟩
          replace hba : Blk (w4.drewN nq) bx _ _ := hba
          replace hgb : Blk (w4.drewN nq) gb _ _ := hgb
          replace hrb : Blk (w4.drewN nq) rb _ _ := hrb
          replace hown : Own (w4.drewN nq) _ _ _ _ _ _ := hown
          replace hcur : RCur (w4.drewN nq) g s a3 0 := hcur
          replace hext : Ext (· = g) w (w4.drewN nq) := hext.drewN nq
          clear q0 p0 p3 c0 c1 c2 f2
          generalize w4.drewN nq = wb at *

          have q0 := hba.cell 0
          have p3 := hgb.cell 3
          dsimp at q0 p3
          obtain ⟨c0, c1, c2, _, f2⟩ := RCur.cells hcur
          cases hB : beginsR k pre
          · have he4 : (18 : Int) = if (0 : Int) ≠ 0 then 0 else if beginsR k pre = false then 18 else if decide (l.length = 0) = false ∧ leB k (keyL l) = true then 6 else 0 := by
              rw [if_pos hB]; decide
            have HE := Lib.hid he4
            clear he4 hB
            go_upto_region 15 with fail
            have hse := Ext.self wb g 2 (.int .i64 18)
            replace hba := hba.ext hse (fun e => hgx e)
            replace hgb := hgb.ext hse hgg
            replace hrb := hrb.ext hse (fun e => hgr e.symm)
            replace hown := hown.apart hcur (by decide) hse
            replace hcur : RCur (wb.setCell ⟨g, 2, none⟩ (.int .i64 18)) g s a3 18 := Blk.set hcur 2 _
            replace hext := hext.trans hse (fun _ _ h => h)
            clear q0 c0 c1 c2 f2 hse
            try clear p0
            try clear p3
            generalize wb.setCell ⟨g, 2, none⟩ (.int .i64 18) = wd at *
            
            have q0 := hba.cell 0
            dsimp at q0
            obtain ⟨c0, c1, c2, _, f2⟩ := RCur.cells hcur
            go_quiet (fail)
            have hba5 : Blk (wd.drewN nq) bx _ _ := hba
            have hgb5 : Blk (wd.drewN nq) gb _ _ := hgb
            have hrb5 : Blk (wd.drewN nq) rb _ _ := hrb
            have hoa5 : Own (wd.drewN nq) _ _ _ _ _ _ := hown
            have hc5 : RCur (wd.drewN nq) g s a3 18 := hcur
            have hxa5 : Ext (· = g) w (wd.drewN nq) := hext.drewN nq
            clear hba hgb hrb hown hcur hext q0 c0 c1 c2 f2
            try clear p0
            try clear p3
            have hE4 : 18 = if (0 : Int) ≠ 0 then (0 : Int) else if beginsR k pre = false then 18 else if decide (l.length = 0) = false ∧ leB k (keyL l) = true then 6 else 0 := HE.out
            obtain ⟨r7, hr7⟩ : ∃ r, bytesR s a3 18 32 = r := ⟨_, rfl⟩
            obtain ⟨m, a7, e7⟩ := r7
            have ha7 : a7 ≤ s.size := by have := bytesR_at (err := 18) (n := 32) ha3; rw [hr7] at this; exact this
            have hstp := ItRel.step HQ.out HRQ.out hlt (itStep_eq HB3.out hE4 hr7)
            have HSTP := Lib.hid hstp
            have HR7 := Lib.hid hr7
            clear hstp hr7 hE4 HE
            go_wp2_with fail
            refine ref01_Bytes g s a3 18 32 _ hc5 ha3 hs ?_
            rw [HR7.out]
            dsimp only
            intro w7 hc7 hx7
            have hba7 := hba5.ext hx7 (fun e => (hba5.ne hc5 (by decide)) e)
            have hgb7 := hgb5.ext hx7 (fun e => (hgb5.ne hc5 (by decide)) e)
            have hrb7 := hrb5.ext hx7 (fun e => (hrb5.ne hc5 (by decide)) e)
            have hoa7 := hoa5.apart hc5 (by decide) hx7
            have hxa7 := hxa5.trans hx7 (fun _ _ h => h)
            have hgx : bx ≠ g := hba7.ne hc7 (by decide)
            clear hba5 hgb5 hrb5 hoa5 hxa5 hc5 hx7
            have q1 := hba7.cell 1
            have f1 := hba7.frozen 1
            dsimp at q1
            go_upto_region 18 with fail
            have hba8 : Blk (w7.setCell ⟨bx, 1, none⟩ (.string m)) bx 58 #[.string k, .string m] := hba7.set 1 _
            have hx78 : Ext (· = bx) w7 (w7.setCell ⟨bx, 1, none⟩ (.string m)) := Ext.self w7 bx 1 _
            have hoa8 := hoa7.ext hx78 (fun b hb e => hnx (by rw [hb, e]))
            have hgb8 := hgb7.ext hx78 (hgb7.ne hba7 (by decide))
            have hrb8 := hrb7.ext hx78 (hrb7.ne hba7 (by decide))
            have hc8 : RCur (w7.setCell ⟨bx, 1, none⟩ (.string m)) g s a7 e7 := Blk.ext hc7 hx78 (fun e => hgx e.symm)
            have hxa8 : Ext (· = g) w (w7.setCell ⟨bx, 1, none⟩ (.string m)) := hxa7.setCell (p := ⟨bx, 1, none⟩) (fun h => absurd h (Nat.not_lt.2 hbw)) _
            clear hba7 hoa7 hc7 hgb7 hrb7 hxa7 q1 f1 hx78
            generalize w7.setCell ⟨bx, 1, none⟩ (.string m) = w8 at *
            have q0 := hba8.cell 0
            have q1 := hba8.cell 1
            dsimp at q0 q1
            obtain ⟨c0, c1, c2, _, _⟩ := RCur.cells hc8
            have hW8 : w.heap.size ≤ w8.heap.size := hxa8.size
            by_cases he7 : e7 = 0
            · subst he7
              have hst7 : ∃ q, itL s pre (n - (l ++ [(k, m)]).length) a7 (keyL (l ++ [(k, m)])) (decide ((l ++ [(k, m)]).length = 0)) = q ∧ r = ((l ++ [(k, m)]) ++ q.1, q.2) := by
                rcases HSTP.out with ⟨_, h⟩ | ⟨h, _⟩
                · exact h
                · exact absurd rfl h
              have HST7 := Lib.hid hst7
              have hlen : (l ++ [(k, m)]).length = l.length + 1 := by simp
              have HLEN := Lib.hid hlen
              clear hlen hst7 HSTP
              have p3 := hgb8.cell 3
              have f3 := hgb8.frozen 3
              dsimp at p3
              go_wp2_with (first
                | (at_builtin; refine wpList_append_one rfl _ _ _ (by rfl) w.heap.size 58 i0 _ 2 32 Try.underlying25 hi0 hz0 hz1 hz2 rfl (by decide) itC (.slice A l.length c) l (by rfl) (hoa8.alloc _) (k, m) ⟨w8.heap.size, 0, none⟩ 1 (by rfl) rfl ((Blk.new _ _ _).news rfl) (itC_one _) (by unfold maxLen; omega) (by omega) (Nat.le_trans hW8 (by simp)) ?_
                   intro g9 c9 w9 hown9 hx9 hst9
                   have hgb9 := (hgb8.alloc (.cells #[.string k, .string m] 58)).ext hx9 (Own.ne (hoa8.alloc (.cells #[.string k, .string m] 58)) (hgb8.alloc (.cells #[.string k, .string m] 58)) (by decide))
                   have p9 := hgb9.cell 3
                   have f9 := hgb9.frozen 3
                   dsimp at p9))
              have hc9 := (Blk.alloc hc8 (.cells #[.string k, .string m] 58)).ext hx9 (Own.ne (hoa8.alloc (.cells #[.string k, .string m] 58)) (Blk.alloc hc8 _) (by decide))
              have hrb9 := (hrb8.alloc (.cells #[.string k, .string m] 58)).ext hx9 (Own.ne (hoa8.alloc (.cells #[.string k, .string m] 58)) (hrb8.alloc (.cells #[.string k, .string m] 58)) (by decide))
              have hxa9 : Ext (· = g) w w9 := (hxa8.alloc (.cells #[.string k, .string m] 58)).trans hx9 (fun b hb e => absurd ((hoa8.alloc (.cells #[.string k, .string m] 58)).lt b e).1 (Nat.not_le.2 hb))
              have hng9 := Own.ne hown9 hgb9 (by decide)
              have hse := Ext.self w9 gb 3 (.slice (some ⟨g9, 0, none⟩) (l.length + 1) c9)
              go_roundw
              case rel => exact ⟨l ++ [(k, m)], some ⟨g9, 0, none⟩, c9, a7, 0, by rw [HLEN.out]; go_num, by rw [HLEN.out]; omega, ha7, by rw [HLEN.out]; exact hown9.ext hse (fun b hb e => hng9 (by rw [hb, e])), by rw [HLEN.out]; exact Blk.set hgb9 3 _, hrb9.ext hse hrg, Blk.ext hc9 hse (fun e => hgg e.symm), hxa9.setCell (p := ⟨gb, 3, none⟩) (fun h => absurd h (Nat.not_lt.2 hgbw)) _, by rw [keyL_snoc]; exact hk32, .inl ⟨rfl, HST7.out⟩⟩
              case measure => simp [RowKit.intOf]; omega
            · have heb : (e7 != 0) = true := by simpa using he7
              have hr2 : r.2 = (a7, e7) := by
                rcases HSTP.out with ⟨h, _⟩ | ⟨_, h⟩
                · exact absurd h he7
                · exact h
              rw [hr2] at HR
              dsimp only at HR
              rw [if_neg he7] at HR
              dsimp only [noPage] at HR
              clear hr2 HSTP
              have d0 := hrb8.cell 0
              have d1 := hrb8.cell 1
              have d2 := hrb8.cell 2
              have d3 := hrb8.cell 3
              have g0 := hrb8.frozen 0
              have g1 := hrb8.frozen 1
              have g2 := hrb8.frozen 2
              have g3 := hrb8.frozen 3
              dsimp [zPg] at d0 d1 d2 d3
              go_wp2_with fail
              refine bodyPost_ret (v := .agg #[.string ⟨#[]⟩, .bool false, .slice none 0 0, .slice none 0 0]) (by simp [results, go_sem, d0, d1, d2, d3]) rfl ?_
              have hset := set4 w8 rb (.string ⟨#[]⟩) (.bool false) (.slice none 0 0) (.slice none 0 0)
              exact HR.out none none 0 0 _ (Row.nil _ _) (Row.nil _ _) (by decide) (by decide) (fun _ e => by cases e) (fun _ e => by cases e) (Blk.ext hc8 hset (fun e => hgr e)) ha7 (hxa8.trans hset (fun b hb e => absurd hb (by omega)))
          · by_cases hlz : l.length = 0
            · have hz1 : ¬ (0 : Int) < (l.length : Int) := by omega
              have hz2 : decide ((0 : Int) < (l.length : Int)) = false := decide_eq_false hz1
              have hz3 : ¬ 0 < l.length := by omega
              have hz4 : decide (0 < l.length) = false := decide_eq_false hz3
              have he4 : (0 : Int) = if (0 : Int) ≠ 0 then 0 else if beginsR k pre = false then 18 else if decide (l.length = 0) = false ∧ leB k (keyL l) = true then 6 else 0 := by
                rw [hB, show decide (l.length = 0) = true from decide_eq_true hlz]; simp
              have HE := Lib.hid he4
              clear he4 hB hlz
              go_wp2_with fail
              go_quiet (fail)
              clear hz1 hz2 hz3 hz4
              have hba5 : Blk (wb.drewN nq) bx _ _ := hba
              have hgb5 : Blk (wb.drewN nq) gb _ _ := hgb
              have hrb5 : Blk (wb.drewN nq) rb _ _ := hrb
              have hoa5 : Own (wb.drewN nq) _ _ _ _ _ _ := hown
              have hc5 : RCur (wb.drewN nq) g s a3 0 := hcur
              have hxa5 : Ext (· = g) w (wb.drewN nq) := hext.drewN nq
              clear hba hgb hrb hown hcur hext q0 c0 c1 c2 f2
              try clear p0
              try clear p3
              have hE4 : 0 = if (0 : Int) ≠ 0 then (0 : Int) else if beginsR k pre = false then 18 else if decide (l.length = 0) = false ∧ leB k (keyL l) = true then 6 else 0 := HE.out
              obtain ⟨r7, hr7⟩ : ∃ r, bytesR s a3 0 32 = r := ⟨_, rfl⟩
              obtain ⟨m, a7, e7⟩ := r7
              have ha7 : a7 ≤ s.size := by have := bytesR_at (err := 0) (n := 32) ha3; rw [hr7] at this; exact this
              have hstp := ItRel.step HQ.out HRQ.out hlt (itStep_eq HB3.out hE4 hr7)
              have HSTP := Lib.hid hstp
              have HR7 := Lib.hid hr7
              clear hstp hr7 hE4 HE
              go_wp2_with fail
              refine ref01_Bytes g s a3 0 32 _ hc5 ha3 hs ?_
              rw [HR7.out]
              dsimp only
              intro w7 hc7 hx7
              have hba7 := hba5.ext hx7 (fun e => (hba5.ne hc5 (by decide)) e)
              have hgb7 := hgb5.ext hx7 (fun e => (hgb5.ne hc5 (by decide)) e)
              have hrb7 := hrb5.ext hx7 (fun e => (hrb5.ne hc5 (by decide)) e)
              have hoa7 := hoa5.apart hc5 (by decide) hx7
              have hxa7 := hxa5.trans hx7 (fun _ _ h => h)
              have hgx : bx ≠ g := hba7.ne hc7 (by decide)
              clear hba5 hgb5 hrb5 hoa5 hxa5 hc5 hx7
              have q1 := hba7.cell 1
              have f1 := hba7.frozen 1
              dsimp at q1
              go_upto_region 18 with fail
              have hba8 : Blk (w7.setCell ⟨bx, 1, none⟩ (.string m)) bx 58 #[.string k, .string m] := hba7.set 1 _
              have hx78 : Ext (· = bx) w7 (w7.setCell ⟨bx, 1, none⟩ (.string m)) := Ext.self w7 bx 1 _
              have hoa8 := hoa7.ext hx78 (fun b hb e => hnx (by rw [hb, e]))
              have hgb8 := hgb7.ext hx78 (hgb7.ne hba7 (by decide))
              have hrb8 := hrb7.ext hx78 (hrb7.ne hba7 (by decide))
              have hc8 : RCur (w7.setCell ⟨bx, 1, none⟩ (.string m)) g s a7 e7 := Blk.ext hc7 hx78 (fun e => hgx e.symm)
              have hxa8 : Ext (· = g) w (w7.setCell ⟨bx, 1, none⟩ (.string m)) := hxa7.setCell (p := ⟨bx, 1, none⟩) (fun h => absurd h (Nat.not_lt.2 hbw)) _
              clear hba7 hoa7 hc7 hgb7 hrb7 hxa7 q1 f1 hx78
              generalize w7.setCell ⟨bx, 1, none⟩ (.string m) = w8 at *
              have q0 := hba8.cell 0
              have q1 := hba8.cell 1
              dsimp at q0 q1
              obtain ⟨c0, c1, c2, _, _⟩ := RCur.cells hc8
              have hW8 : w.heap.size ≤ w8.heap.size := hxa8.size
              by_cases he7 : e7 = 0
              · subst he7
                have hst7 : ∃ q, itL s pre (n - (l ++ [(k, m)]).length) a7 (keyL (l ++ [(k, m)])) (decide ((l ++ [(k, m)]).length = 0)) = q ∧ r = ((l ++ [(k, m)]) ++ q.1, q.2) := by
                  rcases HSTP.out with ⟨_, h⟩ | ⟨h, _⟩
                  · exact h
                  · exact absurd rfl h
                have HST7 := Lib.hid hst7
                have hlen : (l ++ [(k, m)]).length = l.length + 1 := by simp
                have HLEN := Lib.hid hlen
                clear hlen hst7 HSTP
                have p3 := hgb8.cell 3
                have f3 := hgb8.frozen 3
                dsimp at p3
                go_wp2_with (first
                  | (at_builtin; refine wpList_append_one rfl _ _ _ (by rfl) w.heap.size 58 i0 _ 2 32 Try.underlying25 hi0 hz0 hz1 hz2 rfl (by decide) itC (.slice A l.length c) l (by rfl) (hoa8.alloc _) (k, m) ⟨w8.heap.size, 0, none⟩ 1 (by rfl) rfl ((Blk.new _ _ _).news rfl) (itC_one _) (by unfold maxLen; omega) (by omega) (Nat.le_trans hW8 (by simp)) ?_
                     intro g9 c9 w9 hown9 hx9 hst9
                     have hgb9 := (hgb8.alloc (.cells #[.string k, .string m] 58)).ext hx9 (Own.ne (hoa8.alloc (.cells #[.string k, .string m] 58)) (hgb8.alloc (.cells #[.string k, .string m] 58)) (by decide))
                     have p9 := hgb9.cell 3
                     have f9 := hgb9.frozen 3
                     dsimp at p9))
                have hc9 := (Blk.alloc hc8 (.cells #[.string k, .string m] 58)).ext hx9 (Own.ne (hoa8.alloc (.cells #[.string k, .string m] 58)) (Blk.alloc hc8 _) (by decide))
                have hrb9 := (hrb8.alloc (.cells #[.string k, .string m] 58)).ext hx9 (Own.ne (hoa8.alloc (.cells #[.string k, .string m] 58)) (hrb8.alloc (.cells #[.string k, .string m] 58)) (by decide))
                have hxa9 : Ext (· = g) w w9 := (hxa8.alloc (.cells #[.string k, .string m] 58)).trans hx9 (fun b hb e => absurd ((hoa8.alloc (.cells #[.string k, .string m] 58)).lt b e).1 (Nat.not_le.2 hb))
                have hng9 := Own.ne hown9 hgb9 (by decide)
                have hse := Ext.self w9 gb 3 (.slice (some ⟨g9, 0, none⟩) (l.length + 1) c9)
                go_roundw
                case rel => exact ⟨l ++ [(k, m)], some ⟨g9, 0, none⟩, c9, a7, 0, by rw [HLEN.out]; go_num, by rw [HLEN.out]; omega, ha7, by rw [HLEN.out]; exact hown9.ext hse (fun b hb e => hng9 (by rw [hb, e])), by rw [HLEN.out]; exact Blk.set hgb9 3 _, hrb9.ext hse hrg, Blk.ext hc9 hse (fun e => hgg e.symm), hxa9.setCell (p := ⟨gb, 3, none⟩) (fun h => absurd h (Nat.not_lt.2 hgbw)) _, by rw [keyL_snoc]; exact hk32, .inl ⟨rfl, HST7.out⟩⟩
                case measure => simp [RowKit.intOf]; omega
              · have heb : (e7 != 0) = true := by simpa using he7
                have hr2 : r.2 = (a7, e7) := by
                  rcases HSTP.out with ⟨h, _⟩ | ⟨_, h⟩
                  · exact absurd h he7
                  · exact h
                rw [hr2] at HR
                dsimp only at HR
                rw [if_neg he7] at HR
                dsimp only [noPage] at HR
                clear hr2 HSTP
                have d0 := hrb8.cell 0
                have d1 := hrb8.cell 1
                have d2 := hrb8.cell 2
                have d3 := hrb8.cell 3
                have g0 := hrb8.frozen 0
                have g1 := hrb8.frozen 1
                have g2 := hrb8.frozen 2
                have g3 := hrb8.frozen 3
                dsimp [zPg] at d0 d1 d2 d3
                go_wp2_with fail
                refine bodyPost_ret (v := .agg #[.string ⟨#[]⟩, .bool false, .slice none 0 0, .slice none 0 0]) (by simp [results, go_sem, d0, d1, d2, d3]) rfl ?_
                have hset := set4 w8 rb (.string ⟨#[]⟩) (.bool false) (.slice none 0 0) (.slice none 0 0)
                exact HR.out none none 0 0 _ (Row.nil _ _) (Row.nil _ _) (by decide) (by decide) (fun _ e => by cases e) (fun _ e => by cases e) (Blk.ext hc8 hset (fun e => hgr e)) ha7 (hxa8.trans hset (fun b hb e => absurd hb (by omega)))
            · have hz1 : (0 : Int) < (l.length : Int) := by omega
              have hz2 : decide ((0 : Int) < (l.length : Int)) = true := decide_eq_true hz1
              have hz3 : 0 < l.length := by omega
              have hz4 : decide (0 < l.length) = true := decide_eq_true hz3
              have hjw : wrap64 ((l.length : Int) - 1) = ((l.length - 1 : Nat) : Int) := by
                have e : (l.length : Int) - 1 = ((l.length - 1 : Nat) : Int) := by omega
                rw [e]; unfold wrap64; omega
              have hjl : ((l.length - 1 : Nat) : Int) < (l.length : Int) := by omega
              have hjn : (0 : Int) ≤ ((l.length - 1 : Nat) : Int) := Int.natCast_nonneg _
              obtain ⟨b, o, hA, hb, d0, d1⟩ := (Row.of_own hown).it (l.length - 1) (by omega)
              have hkl : keyL l = (l.getD (l.length - 1) (emp, emp)).1 := by unfold keyL lastK; rw [if_neg hlz]
              rw [← hkl] at d0
              obtain ⟨k', hk'⟩ : ∃ k', keyL l = k' := ⟨_, rfl⟩
              rw [hk'] at d0
              have hks : k'.size ≤ 140737488351232 := by rw [← hk']; omega
              have hle := leB_not k k'
              rw [← hk'] at hle
              have HLE := Lib.hid hle
              have HBG := Lib.hid hB
              have HLZ := Lib.hid hlz
              have HKK := Lib.hid hk'
              clear hle hkl hB hlz hk' d1
              subst hA
              cases hL : Op.bytesLess k'.toList k.toList
              · have he4 : (6 : Int) = if (0 : Int) ≠ 0 then 0 else if beginsR k pre = false then 18 else if decide (l.length = 0) = false ∧ leB k (keyL l) = true then 6 else 0 := by
                  rw [HBG.out, HLE.out, HKK.out, hL, show decide (l.length = 0) = false from decide_eq_false HLZ.out]; simp
                have HE := Lib.hid he4
                clear he4 HBG HLZ HLE HKK
                go_wp2_with fail
                go_quiet ((first
                  | (go_at_call 68; exact quiet_d (ref06_Below k' k _ hks))))
                clear hz1 hz2 hz3 hz4 hjw hjl hjn d0 hL
                have hba5 : Blk (wb.drewN nq) bx _ _ := hba
                have hgb5 : Blk (wb.drewN nq) gb _ _ := hgb
                have hrb5 : Blk (wb.drewN nq) rb _ _ := hrb
                have hoa5 : Own (wb.drewN nq) _ _ _ _ _ _ := hown
                have hc5 : RCur (wb.drewN nq) g s a3 0 := hcur
                have hxa5 : Ext (· = g) w (wb.drewN nq) := hext.drewN nq
                clear hba hgb hrb hown hcur hext q0 c0 c1 c2 f2
                try clear p0
                try clear p3
                generalize hwb : wb.drewN nq = wc at *
                clear hwb
                obtain ⟨c0, c1, c2, _, f2⟩ := RCur.cells hc5
                go_upto_region 17 with fail
                have hse := Ext.self wc g 2 (.int .i64 6)
                replace hba5 := hba5.ext hse (fun e => hgx e)
                replace hgb5 := hgb5.ext hse hgg
                replace hrb5 := hrb5.ext hse (fun e => hgr e.symm)
                replace hoa5 := hoa5.apart hc5 (by decide) hse
                replace hc5 : RCur (wc.setCell ⟨g, 2, none⟩ (.int .i64 6)) g s a3 6 := Blk.set hc5 2 _
                replace hxa5 := hxa5.trans hse (fun _ _ h => h)
                clear c2 f2 hse
                generalize wc.setCell ⟨g, 2, none⟩ (.int .i64 6) = wd at *
                
                have hE4 : 6 = if (0 : Int) ≠ 0 then (0 : Int) else if beginsR k pre = false then 18 else if decide (l.length = 0) = false ∧ leB k (keyL l) = true then 6 else 0 := HE.out
                obtain ⟨r7, hr7⟩ : ∃ r, bytesR s a3 6 32 = r := ⟨_, rfl⟩
                obtain ⟨m, a7, e7⟩ := r7
                have ha7 : a7 ≤ s.size := by have := bytesR_at (err := 6) (n := 32) ha3; rw [hr7] at this; exact this
                have hstp := ItRel.step HQ.out HRQ.out hlt (itStep_eq HB3.out hE4 hr7)
                have HSTP := Lib.hid hstp
                have HR7 := Lib.hid hr7
                clear hstp hr7 hE4 HE
                go_wp2_with fail
                refine ref01_Bytes g s a3 6 32 _ hc5 ha3 hs ?_
                rw [HR7.out]
                dsimp only
                intro w7 hc7 hx7
                have hba7 := hba5.ext hx7 (fun e => (hba5.ne hc5 (by decide)) e)
                have hgb7 := hgb5.ext hx7 (fun e => (hgb5.ne hc5 (by decide)) e)
                have hrb7 := hrb5.ext hx7 (fun e => (hrb5.ne hc5 (by decide)) e)
                have hoa7 := hoa5.apart hc5 (by decide) hx7
                have hxa7 := hxa5.trans hx7 (fun _ _ h => h)
                have hgx : bx ≠ g := hba7.ne hc7 (by decide)
                clear hba5 hgb5 hrb5 hoa5 hxa5 hc5 hx7
                have q1 := hba7.cell 1
                have f1 := hba7.frozen 1
                dsimp at q1
                go_upto_region 18 with fail
                have hba8 : Blk (w7.setCell ⟨bx, 1, none⟩ (.string m)) bx 58 #[.string k, .string m] := hba7.set 1 _
                have hx78 : Ext (· = bx) w7 (w7.setCell ⟨bx, 1, none⟩ (.string m)) := Ext.self w7 bx 1 _
                have hoa8 := hoa7.ext hx78 (fun b hb e => hnx (by rw [hb, e]))
                have hgb8 := hgb7.ext hx78 (hgb7.ne hba7 (by decide))
                have hrb8 := hrb7.ext hx78 (hrb7.ne hba7 (by decide))
                have hc8 : RCur (w7.setCell ⟨bx, 1, none⟩ (.string m)) g s a7 e7 := Blk.ext hc7 hx78 (fun e => hgx e.symm)
                have hxa8 : Ext (· = g) w (w7.setCell ⟨bx, 1, none⟩ (.string m)) := hxa7.setCell (p := ⟨bx, 1, none⟩) (fun h => absurd h (Nat.not_lt.2 hbw)) _
                clear hba7 hoa7 hc7 hgb7 hrb7 hxa7 q1 f1 hx78
                generalize w7.setCell ⟨bx, 1, none⟩ (.string m) = w8 at *
                have q0 := hba8.cell 0
                have q1 := hba8.cell 1
                dsimp at q0 q1
                obtain ⟨c0, c1, c2, _, _⟩ := RCur.cells hc8
                have hW8 : w.heap.size ≤ w8.heap.size := hxa8.size
                by_cases he7 : e7 = 0
                · subst he7
                  have hst7 : ∃ q, itL s pre (n - (l ++ [(k, m)]).length) a7 (keyL (l ++ [(k, m)])) (decide ((l ++ [(k, m)]).length = 0)) = q ∧ r = ((l ++ [(k, m)]) ++ q.1, q.2) := by
                    rcases HSTP.out with ⟨_, h⟩ | ⟨h, _⟩
                    · exact h
                    · exact absurd rfl h
                  have HST7 := Lib.hid hst7
                  have hlen : (l ++ [(k, m)]).length = l.length + 1 := by simp
                  have HLEN := Lib.hid hlen
                  clear hlen hst7 HSTP
                  have p3 := hgb8.cell 3
                  have f3 := hgb8.frozen 3
                  dsimp at p3
                  go_wp2_with (first
                    | (at_builtin; refine wpList_append_one rfl _ _ _ (by rfl) w.heap.size 58 i0 _ 2 32 Try.underlying25 hi0 hz0 hz1 hz2 rfl (by decide) itC (.slice (some ⟨b, o, none⟩) l.length c) l (by rfl) (hoa8.alloc _) (k, m) ⟨w8.heap.size, 0, none⟩ 1 (by rfl) rfl ((Blk.new _ _ _).news rfl) (itC_one _) (by unfold maxLen; omega) (by omega) (Nat.le_trans hW8 (by simp)) ?_
                       intro g9 c9 w9 hown9 hx9 hst9
                       have hgb9 := (hgb8.alloc (.cells #[.string k, .string m] 58)).ext hx9 (Own.ne (hoa8.alloc (.cells #[.string k, .string m] 58)) (hgb8.alloc (.cells #[.string k, .string m] 58)) (by decide))
                       have p9 := hgb9.cell 3
                       have f9 := hgb9.frozen 3
                       dsimp at p9))
                  have hc9 := (Blk.alloc hc8 (.cells #[.string k, .string m] 58)).ext hx9 (Own.ne (hoa8.alloc (.cells #[.string k, .string m] 58)) (Blk.alloc hc8 _) (by decide))
                  have hrb9 := (hrb8.alloc (.cells #[.string k, .string m] 58)).ext hx9 (Own.ne (hoa8.alloc (.cells #[.string k, .string m] 58)) (hrb8.alloc (.cells #[.string k, .string m] 58)) (by decide))
                  have hxa9 : Ext (· = g) w w9 := (hxa8.alloc (.cells #[.string k, .string m] 58)).trans hx9 (fun b hb e => absurd ((hoa8.alloc (.cells #[.string k, .string m] 58)).lt b e).1 (Nat.not_le.2 hb))
                  have hng9 := Own.ne hown9 hgb9 (by decide)
                  have hse := Ext.self w9 gb 3 (.slice (some ⟨g9, 0, none⟩) (l.length + 1) c9)
                  go_roundw
                  case rel => exact ⟨l ++ [(k, m)], some ⟨g9, 0, none⟩, c9, a7, 0, by rw [HLEN.out]; go_num, by rw [HLEN.out]; omega, ha7, by rw [HLEN.out]; exact hown9.ext hse (fun b hb e => hng9 (by rw [hb, e])), by rw [HLEN.out]; exact Blk.set hgb9 3 _, hrb9.ext hse hrg, Blk.ext hc9 hse (fun e => hgg e.symm), hxa9.setCell (p := ⟨gb, 3, none⟩) (fun h => absurd h (Nat.not_lt.2 hgbw)) _, by rw [keyL_snoc]; exact hk32, .inl ⟨rfl, HST7.out⟩⟩
                  case measure => simp [RowKit.intOf]; omega
                · have heb : (e7 != 0) = true := by simpa using he7
                  have hr2 : r.2 = (a7, e7) := by
                    rcases HSTP.out with ⟨h, _⟩ | ⟨_, h⟩
                    · exact absurd h he7
                    · exact h
                  rw [hr2] at HR
                  dsimp only at HR
                  rw [if_neg he7] at HR
                  dsimp only [noPage] at HR
                  clear hr2 HSTP
                  have d0 := hrb8.cell 0
                  have d1 := hrb8.cell 1
                  have d2 := hrb8.cell 2
                  have d3 := hrb8.cell 3
                  have g0 := hrb8.frozen 0
                  have g1 := hrb8.frozen 1
                  have g2 := hrb8.frozen 2
                  have g3 := hrb8.frozen 3
                  dsimp [zPg] at d0 d1 d2 d3
                  go_wp2_with fail
                  refine bodyPost_ret (v := .agg #[.string ⟨#[]⟩, .bool false, .slice none 0 0, .slice none 0 0]) (by simp [results, go_sem, d0, d1, d2, d3]) rfl ?_
                  have hset := set4 w8 rb (.string ⟨#[]⟩) (.bool false) (.slice none 0 0) (.slice none 0 0)
                  exact HR.out none none 0 0 _ (Row.nil _ _) (Row.nil _ _) (by decide) (by decide) (fun _ e => by cases e) (fun _ e => by cases e) (Blk.ext hc8 hset (fun e => hgr e)) ha7 (hxa8.trans hset (fun b hb e => absurd hb (by omega)))
              · have he4 : (0 : Int) = if (0 : Int) ≠ 0 then 0 else if beginsR k pre = false then 18 else if decide (l.length = 0) = false ∧ leB k (keyL l) = true then 6 else 0 := by
                  rw [HBG.out, HLE.out, HKK.out, hL]; simp
                have HE := Lib.hid he4
                clear he4 HBG HLZ HLE HKK
                go_wp2_with fail
                go_quiet ((first
                  | (go_at_call 68; exact quiet_d (ref06_Below k' k _ hks))))
                clear hz1 hz2 hz3 hz4 hjw hjl hjn d0 hL
                have hba5 : Blk (wb.drewN nq) bx _ _ := hba
                have hgb5 : Blk (wb.drewN nq) gb _ _ := hgb
                have hrb5 : Blk (wb.drewN nq) rb _ _ := hrb
                have hoa5 : Own (wb.drewN nq) _ _ _ _ _ _ := hown
                have hc5 : RCur (wb.drewN nq) g s a3 0 := hcur
                have hxa5 : Ext (· = g) w (wb.drewN nq) := hext.drewN nq
                clear hba hgb hrb hown hcur hext q0 c0 c1 c2 f2
                try clear p0
                try clear p3
                have hE4 : 0 = if (0 : Int) ≠ 0 then (0 : Int) else if beginsR k pre = false then 18 else if decide (l.length = 0) = false ∧ leB k (keyL l) = true then 6 else 0 := HE.out
                obtain ⟨r7, hr7⟩ : ∃ r, bytesR s a3 0 32 = r := ⟨_, rfl⟩
                obtain ⟨m, a7, e7⟩ := r7
                have ha7 : a7 ≤ s.size := by have := bytesR_at (err := 0) (n := 32) ha3; rw [hr7] at this; exact this
                have hstp := ItRel.step HQ.out HRQ.out hlt (itStep_eq HB3.out hE4 hr7)
                have HSTP := Lib.hid hstp
                have HR7 := Lib.hid hr7
                clear hstp hr7 hE4 HE
                go_wp2_with fail
                refine ref01_Bytes g s a3 0 32 _ hc5 ha3 hs ?_
                rw [HR7.out]
                dsimp only
                intro w7 hc7 hx7
                have hba7 := hba5.ext hx7 (fun e => (hba5.ne hc5 (by decide)) e)
                have hgb7 := hgb5.ext hx7 (fun e => (hgb5.ne hc5 (by decide)) e)
                have hrb7 := hrb5.ext hx7 (fun e => (hrb5.ne hc5 (by decide)) e)
                have hoa7 := hoa5.apart hc5 (by decide) hx7
                have hxa7 := hxa5.trans hx7 (fun _ _ h => h)
                have hgx : bx ≠ g := hba7.ne hc7 (by decide)
                clear hba5 hgb5 hrb5 hoa5 hxa5 hc5 hx7
                have q1 := hba7.cell 1
                have f1 := hba7.frozen 1
                dsimp at q1
                go_upto_region 18 with fail
                have hba8 : Blk (w7.setCell ⟨bx, 1, none⟩ (.string m)) bx 58 #[.string k, .string m] := hba7.set 1 _
                have hx78 : Ext (· = bx) w7 (w7.setCell ⟨bx, 1, none⟩ (.string m)) := Ext.self w7 bx 1 _
                have hoa8 := hoa7.ext hx78 (fun b hb e => hnx (by rw [hb, e]))
                have hgb8 := hgb7.ext hx78 (hgb7.ne hba7 (by decide))
                have hrb8 := hrb7.ext hx78 (hrb7.ne hba7 (by decide))
                have hc8 : RCur (w7.setCell ⟨bx, 1, none⟩ (.string m)) g s a7 e7 := Blk.ext hc7 hx78 (fun e => hgx e.symm)
                have hxa8 : Ext (· = g) w (w7.setCell ⟨bx, 1, none⟩ (.string m)) := hxa7.setCell (p := ⟨bx, 1, none⟩) (fun h => absurd h (Nat.not_lt.2 hbw)) _
                clear hba7 hoa7 hc7 hgb7 hrb7 hxa7 q1 f1 hx78
                generalize w7.setCell ⟨bx, 1, none⟩ (.string m) = w8 at *
                have q0 := hba8.cell 0
                have q1 := hba8.cell 1
                dsimp at q0 q1
                obtain ⟨c0, c1, c2, _, _⟩ := RCur.cells hc8
                have hW8 : w.heap.size ≤ w8.heap.size := hxa8.size
                by_cases he7 : e7 = 0
                · subst he7
                  have hst7 : ∃ q, itL s pre (n - (l ++ [(k, m)]).length) a7 (keyL (l ++ [(k, m)])) (decide ((l ++ [(k, m)]).length = 0)) = q ∧ r = ((l ++ [(k, m)]) ++ q.1, q.2) := by
                    rcases HSTP.out with ⟨_, h⟩ | ⟨h, _⟩
                    · exact h
                    · exact absurd rfl h
                  have HST7 := Lib.hid hst7
                  have hlen : (l ++ [(k, m)]).length = l.length + 1 := by simp
                  have HLEN := Lib.hid hlen
                  clear hlen hst7 HSTP
                  have p3 := hgb8.cell 3
                  have f3 := hgb8.frozen 3
                  dsimp at p3
                  go_wp2_with (first
                    | (at_builtin; refine wpList_append_one rfl _ _ _ (by rfl) w.heap.size 58 i0 _ 2 32 Try.underlying25 hi0 hz0 hz1 hz2 rfl (by decide) itC (.slice (some ⟨b, o, none⟩) l.length c) l (by rfl) (hoa8.alloc _) (k, m) ⟨w8.heap.size, 0, none⟩ 1 (by rfl) rfl ((Blk.new _ _ _).news rfl) (itC_one _) (by unfold maxLen; omega) (by omega) (Nat.le_trans hW8 (by simp)) ?_
                       intro g9 c9 w9 hown9 hx9 hst9
                       have hgb9 := (hgb8.alloc (.cells #[.string k, .string m] 58)).ext hx9 (Own.ne (hoa8.alloc (.cells #[.string k, .string m] 58)) (hgb8.alloc (.cells #[.string k, .string m] 58)) (by decide))
                       have p9 := hgb9.cell 3
                       have f9 := hgb9.frozen 3
                       dsimp at p9))
                  have hc9 := (Blk.alloc hc8 (.cells #[.string k, .string m] 58)).ext hx9 (Own.ne (hoa8.alloc (.cells #[.string k, .string m] 58)) (Blk.alloc hc8 _) (by decide))
                  have hrb9 := (hrb8.alloc (.cells #[.string k, .string m] 58)).ext hx9 (Own.ne (hoa8.alloc (.cells #[.string k, .string m] 58)) (hrb8.alloc (.cells #[.string k, .string m] 58)) (by decide))
                  have hxa9 : Ext (· = g) w w9 := (hxa8.alloc (.cells #[.string k, .string m] 58)).trans hx9 (fun b hb e => absurd ((hoa8.alloc (.cells #[.string k, .string m] 58)).lt b e).1 (Nat.not_le.2 hb))
                  have hng9 := Own.ne hown9 hgb9 (by decide)
                  have hse := Ext.self w9 gb 3 (.slice (some ⟨g9, 0, none⟩) (l.length + 1) c9)
                  go_roundw
                  case rel => exact ⟨l ++ [(k, m)], some ⟨g9, 0, none⟩, c9, a7, 0, by rw [HLEN.out]; go_num, by rw [HLEN.out]; omega, ha7, by rw [HLEN.out]; exact hown9.ext hse (fun b hb e => hng9 (by rw [hb, e])), by rw [HLEN.out]; exact Blk.set hgb9 3 _, hrb9.ext hse hrg, Blk.ext hc9 hse (fun e => hgg e.symm), hxa9.setCell (p := ⟨gb, 3, none⟩) (fun h => absurd h (Nat.not_lt.2 hgbw)) _, by rw [keyL_snoc]; exact hk32, .inl ⟨rfl, HST7.out⟩⟩
                  case measure => simp [RowKit.intOf]; omega
                · have heb : (e7 != 0) = true := by simpa using he7
                  have hr2 : r.2 = (a7, e7) := by
                    rcases HSTP.out with ⟨h, _⟩ | ⟨_, h⟩
                    · exact absurd h he7
                    · exact h
                  rw [hr2] at HR
                  dsimp only at HR
                  rw [if_neg he7] at HR
                  dsimp only [noPage] at HR
                  clear hr2 HSTP
                  have d0 := hrb8.cell 0
                  have d1 := hrb8.cell 1
                  have d2 := hrb8.cell 2
                  have d3 := hrb8.cell 3
                  have g0 := hrb8.frozen 0
                  have g1 := hrb8.frozen 1
                  have g2 := hrb8.frozen 2
                  have g3 := hrb8.frozen 3
                  dsimp [zPg] at d0 d1 d2 d3
                  go_wp2_with fail
                  refine bodyPost_ret (v := .agg #[.string ⟨#[]⟩, .bool false, .slice none 0 0, .slice none 0 0]) (by simp [results, go_sem, d0, d1, d2, d3]) rfl ?_
                  have hset := set4 w8 rb (.string ⟨#[]⟩) (.bool false) (.slice none 0 0) (.slice none 0 0)
                  exact HR.out none none 0 0 _ (Row.nil _ _) (Row.nil _ _) (by decide) (by decide) (fun _ e => by cases e) (fun _ e => by cases e) (Blk.ext hc8 hset (fun e => hgr e)) ha7 (hxa8.trans hset (fun b hb e => absurd hb (by omega)))
        · have hez : (e3 == 0) = false := by simpa using he3
          have he4 : e3 = if e3 ≠ 0 then e3 else if beginsR k pre = false then 18 else if decide (l.length = 0) = false ∧ leB k (keyL l) = true then 6 else 0 := by rw [if_pos he3]
          have HE := Lib.hid he4
          clear he4
          go_wp2_with fail
          go_quiet (fail)
          have hba5 : Blk (w4.drewN nq) bx _ _ := hba
          have hgb5 : Blk (w4.drewN nq) gb _ _ := hgb
          have hrb5 : Blk (w4.drewN nq) rb _ _ := hrb
          have hoa5 : Own (w4.drewN nq) _ _ _ _ _ _ := hown
          have hc5 : RCur (w4.drewN nq) g s a3 e3 := hcur
          have hxa5 : Ext (· = g) w (w4.drewN nq) := hext.drewN nq
          clear hba hgb hrb hown hcur hext q0 c0 c1 c2 f2
          try clear p0
          try clear p3
          have hE4 : e3 = if e3 ≠ 0 then e3 else if beginsR k pre = false then 18 else if decide (l.length = 0) = false ∧ leB k (keyL l) = true then 6 else 0 := HE.out
          obtain ⟨r7, hr7⟩ : ∃ r, bytesR s a3 e3 32 = r := ⟨_, rfl⟩
          obtain ⟨m, a7, e7⟩ := r7
          have ha7 : a7 ≤ s.size := by have := bytesR_at (err := e3) (n := 32) ha3; rw [hr7] at this; exact this
          have hstp := ItRel.step HQ.out HRQ.out hlt (itStep_eq HB3.out hE4 hr7)
          have HSTP := Lib.hid hstp
          have HR7 := Lib.hid hr7
          clear hstp hr7 hE4 HE
          go_wp2_with fail
          refine ref01_Bytes g s a3 e3 32 _ hc5 ha3 hs ?_
          rw [HR7.out]
          dsimp only
          intro w7 hc7 hx7
          have hba7 := hba5.ext hx7 (fun e => (hba5.ne hc5 (by decide)) e)
          have hgb7 := hgb5.ext hx7 (fun e => (hgb5.ne hc5 (by decide)) e)
          have hrb7 := hrb5.ext hx7 (fun e => (hrb5.ne hc5 (by decide)) e)
          have hoa7 := hoa5.apart hc5 (by decide) hx7
          have hxa7 := hxa5.trans hx7 (fun _ _ h => h)
          have hgx : bx ≠ g := hba7.ne hc7 (by decide)
          clear hba5 hgb5 hrb5 hoa5 hxa5 hc5 hx7
          have q1 := hba7.cell 1
          have f1 := hba7.frozen 1
          dsimp at q1
          go_upto_region 18 with fail
          have hba8 : Blk (w7.setCell ⟨bx, 1, none⟩ (.string m)) bx 58 #[.string k, .string m] := hba7.set 1 _
          have hx78 : Ext (· = bx) w7 (w7.setCell ⟨bx, 1, none⟩ (.string m)) := Ext.self w7 bx 1 _
          have hoa8 := hoa7.ext hx78 (fun b hb e => hnx (by rw [hb, e]))
          have hgb8 := hgb7.ext hx78 (hgb7.ne hba7 (by decide))
          have hrb8 := hrb7.ext hx78 (hrb7.ne hba7 (by decide))
          have hc8 : RCur (w7.setCell ⟨bx, 1, none⟩ (.string m)) g s a7 e7 := Blk.ext hc7 hx78 (fun e => hgx e.symm)
          have hxa8 : Ext (· = g) w (w7.setCell ⟨bx, 1, none⟩ (.string m)) := hxa7.setCell (p := ⟨bx, 1, none⟩) (fun h => absurd h (Nat.not_lt.2 hbw)) _
          clear hba7 hoa7 hc7 hgb7 hrb7 hxa7 q1 f1 hx78
          generalize w7.setCell ⟨bx, 1, none⟩ (.string m) = w8 at *
          have q0 := hba8.cell 0
          have q1 := hba8.cell 1
          dsimp at q0 q1
          obtain ⟨c0, c1, c2, _, _⟩ := RCur.cells hc8
          have hW8 : w.heap.size ≤ w8.heap.size := hxa8.size
          by_cases he7 : e7 = 0
          · subst he7
            have hst7 : ∃ q, itL s pre (n - (l ++ [(k, m)]).length) a7 (keyL (l ++ [(k, m)])) (decide ((l ++ [(k, m)]).length = 0)) = q ∧ r = ((l ++ [(k, m)]) ++ q.1, q.2) := by
              rcases HSTP.out with ⟨_, h⟩ | ⟨h, _⟩
              · exact h
              · exact absurd rfl h
            have HST7 := Lib.hid hst7
            have hlen : (l ++ [(k, m)]).length = l.length + 1 := by simp
            have HLEN := Lib.hid hlen
            clear hlen hst7 HSTP
            have p3 := hgb8.cell 3
            have f3 := hgb8.frozen 3
            dsimp at p3
            go_wp2_with (first
              | (at_builtin; refine wpList_append_one rfl _ _ _ (by rfl) w.heap.size 58 i0 _ 2 32 Try.underlying25 hi0 hz0 hz1 hz2 rfl (by decide) itC (.slice A l.length c) l (by rfl) (hoa8.alloc _) (k, m) ⟨w8.heap.size, 0, none⟩ 1 (by rfl) rfl ((Blk.new _ _ _).news rfl) (itC_one _) (by unfold maxLen; omega) (by omega) (Nat.le_trans hW8 (by simp)) ?_
                 intro g9 c9 w9 hown9 hx9 hst9
                 have hgb9 := (hgb8.alloc (.cells #[.string k, .string m] 58)).ext hx9 (Own.ne (hoa8.alloc (.cells #[.string k, .string m] 58)) (hgb8.alloc (.cells #[.string k, .string m] 58)) (by decide))
                 have p9 := hgb9.cell 3
                 have f9 := hgb9.frozen 3
                 dsimp at p9))
            have hc9 := (Blk.alloc hc8 (.cells #[.string k, .string m] 58)).ext hx9 (Own.ne (hoa8.alloc (.cells #[.string k, .string m] 58)) (Blk.alloc hc8 _) (by decide))
            have hrb9 := (hrb8.alloc (.cells #[.string k, .string m] 58)).ext hx9 (Own.ne (hoa8.alloc (.cells #[.string k, .string m] 58)) (hrb8.alloc (.cells #[.string k, .string m] 58)) (by decide))
            have hxa9 : Ext (· = g) w w9 := (hxa8.alloc (.cells #[.string k, .string m] 58)).trans hx9 (fun b hb e => absurd ((hoa8.alloc (.cells #[.string k, .string m] 58)).lt b e).1 (Nat.not_le.2 hb))
            have hng9 := Own.ne hown9 hgb9 (by decide)
            have hse := Ext.self w9 gb 3 (.slice (some ⟨g9, 0, none⟩) (l.length + 1) c9)
            go_roundw
            case rel => exact ⟨l ++ [(k, m)], some ⟨g9, 0, none⟩, c9, a7, 0, by rw [HLEN.out]; go_num, by rw [HLEN.out]; omega, ha7, by rw [HLEN.out]; exact hown9.ext hse (fun b hb e => hng9 (by rw [hb, e])), by rw [HLEN.out]; exact Blk.set hgb9 3 _, hrb9.ext hse hrg, Blk.ext hc9 hse (fun e => hgg e.symm), hxa9.setCell (p := ⟨gb, 3, none⟩) (fun h => absurd h (Nat.not_lt.2 hgbw)) _, by rw [keyL_snoc]; exact hk32, .inl ⟨rfl, HST7.out⟩⟩
            case measure => simp [RowKit.intOf]; omega
          · have heb : (e7 != 0) = true := by simpa using he7
            have hr2 : r.2 = (a7, e7) := by
              rcases HSTP.out with ⟨h, _⟩ | ⟨_, h⟩
              · exact absurd h he7
              · exact h
            rw [hr2] at HR
            dsimp only at HR
            rw [if_neg he7] at HR
            dsimp only [noPage] at HR
            clear hr2 HSTP
            have d0 := hrb8.cell 0
            have d1 := hrb8.cell 1
            have d2 := hrb8.cell 2
            have d3 := hrb8.cell 3
            have g0 := hrb8.frozen 0
            have g1 := hrb8.frozen 1
            have g2 := hrb8.frozen 2
            have g3 := hrb8.frozen 3
            dsimp [zPg] at d0 d1 d2 d3
            go_wp2_with fail
            refine bodyPost_ret (v := .agg #[.string ⟨#[]⟩, .bool false, .slice none 0 0, .slice none 0 0]) (by simp [results, go_sem, d0, d1, d2, d3]) rfl ?_
            have hset := set4 w8 rb (.string ⟨#[]⟩) (.bool false) (.slice none 0 0) (.slice none 0 0)
            exact HR.out none none 0 0 _ (Row.nil _ _) (Row.nil _ _) (by decide) (by decide) (fun _ e => by cases e) (fun _ e => by cases e) (Blk.ext hc8 hset (fun e => hgr e)) ha7 (hxa8.trans hset (fun b hb e => absurd hb (by omega)))
      · have hlt1 : ¬ (l.length : Int) < (n : Int) := by omega
        have hlt2 : decide ((l.length : Int) < (n : Int)) = false := decide_eq_false hlt1
        obtain ⟨c0, c1, c2, _, _⟩ := RCur.cells hcur
        by_cases he2 : e2 = 0
        · obtain ⟨q, hq, hrq⟩ : ∃ q, itL s pre (n - l.length) a2 (keyL l) (decide (l.length = 0)) = q ∧ r = (l ++ q.1, q.2) := by
            rcases hrst with ⟨_, h⟩ | ⟨h, _⟩
            · exact h
            · exact absurd he2 h
          rw [show n - l.length = 0 by omega, itL] at hq
          subst he2 hq hrq
          dsimp only at HR
          rw [if_pos rfl, List.append_nil] at HR
          dsimp only at HR
          clear hrst
          have q0 := hgb.cell 0
          have q1 := hgb.cell 1
          have q2 := hgb.cell 2
          have q3 := hgb.cell 3
          have d0 := hrb.cell 0
          have d1 := hrb.cell 1
          have d2 := hrb.cell 2
          have d3 := hrb.cell 3
          have g0 := hrb.frozen 0
          have g1 := hrb.frozen 1
          have g2 := hrb.frozen 2
          have g3 := hrb.frozen 3
          dsimp [zPg] at q0 q1 q2 q3 d0 d1 d2 d3
          go_wp2_with fail
          refine bodyPost_ret (v := .agg #[.string pre, .bool true, .slice none 0 0, .slice A l.length c]) (by simp [results, go_sem, d0, d1, d2, d3]) rfl ?_
          have hset := set4 wr rb (.string pre) (.bool true) (.slice none 0 0) (.slice A l.length c)
          have hnr := Own.ne hown hrb (by decide)
          exact HR.out none A 0 c _ (Row.nil _ _) (Row.of_own (hown.ext hset (fun b hb e => hnr (by rw [hb, e])))) (by decide) (by omega) (fun _ e => by cases e) (fun ad e => (hown.lt ad.block (by rw [e]; rfl)).1) (Blk.ext hcur hset (fun e => hgr e)) ha2 (hext.trans hset (fun b hb e => absurd hb (by omega)))
        · obtain ⟨_, _, hrq⟩ : e2 ≠ 0 ∧ n = 0 ∧ r = ([], a2, e2) := by
            rcases hrst with ⟨h, _⟩ | h
            · exact absurd h he2
            · exact h
          have heb : (e2 != 0) = true := by simpa using he2
          subst hrq
          dsimp only at HR
          rw [if_neg he2] at HR
          dsimp only [noPage] at HR
          clear hrst
          have d0 := hrb.cell 0
          have d1 := hrb.cell 1
          have d2 := hrb.cell 2
          have d3 := hrb.cell 3
          have g0 := hrb.frozen 0
          have g1 := hrb.frozen 1
          have g2 := hrb.frozen 2
          have g3 := hrb.frozen 3
          dsimp [zPg] at d0 d1 d2 d3
          go_wp2_with fail
          refine bodyPost_ret (v := .agg #[.string ⟨#[]⟩, .bool false, .slice none 0 0, .slice none 0 0]) (by simp [results, go_sem, d0, d1, d2, d3]) rfl ?_
          have hset := set4 wr rb (.string ⟨#[]⟩) (.bool false) (.slice none 0 0) (.slice none 0 0)
          exact HR.out none none 0 0 _ (Row.nil _ _) (Row.nil _ _) (by decide) (by decide) (fun _ e => by cases e) (fun _ e => by cases e) (Blk.ext hcur hset (fun e => hgr e)) ha2 (hext.trans hset (fun b hb e => absurd hb (by omega)))
  · rw [if_neg (by decide)] at hr
    go_wp2_with fail
    refine ref06_Count g s a2 0 256 w5 hc4 hat2 hs (by decide) ?_
    have hcn := countR_le s a2 0 256
    have hca := countR_at (s := s) (e := 0) 256 hat2
    have hcz := @countR_zero s a2 0 256
    obtain ⟨r, hr0⟩ : ∃ r, slotsR s a2 0 = r := ⟨_, rfl⟩
    rw [hr0] at hr
    unfold slotsR at hr0
    generalize countR s a2 0 256 = cr at *
    obtain ⟨n, a6, e6⟩ := cr
    dsimp only at hcn hca hcz hr0 hr ⊢
    intro w6 hc6 hx6
    have hn0 : (0 : Int) ≤ (n : Int) := Int.natCast_nonneg _
    replace hgb := hgb.ext hx6 hgg
    replace hrb := hrb.ext hx6 (fun e => hgr e.symm)
    replace hx := hx.trans hx6 (fun _ _ h => h)
    obtain ⟨c0, c1, c2, _, f2⟩ := RCur.cells hc6
    subst hr
    dsimp only at HR
    have hst : ∀ e7 : Int, e7 = (if e6 = 0 ∧ n = 0 then 7 else e6) → (e7 = 0 ∧ ∃ q, slL s (n - 0) a6 (lastS []) = q ∧ r = ([] ++ q.1, q.2)) ∨ (e7 ≠ 0 ∧ n = 0 ∧ r = ([], a6, e7)) := by
      intro e7 h7
      by_cases he : e6 = 0
      · subst he
        rw [if_neg (by decide)] at hr0
        by_cases hn : n = 0
        · rw [if_pos ⟨rfl, hn⟩] at h7
          rw [if_pos hn] at hr0
          subst h7
          exact .inr ⟨by decide, hn, hr0.symm⟩
        · rw [if_neg (fun h => hn h.2)] at h7
          rw [if_neg hn] at hr0
          exact .inl ⟨h7, _, rfl, by rw [← hr0]; rfl⟩
      · rw [if_pos he] at hr0
        rw [if_neg (fun h => he h.1)] at h7
        subst h7
        exact .inr ⟨he, hcz he, hr0.symm⟩
    have HST := Lib.hid hst
    have HCZ := Lib.hid hcz
    clear hst hcz
    clear hr0 hc4 hx6 q1 hat hat2
    obtain ⟨bz, hbz⟩ : ∃ bz, decide (e6 = 0 ∧ n = 0) = bz := ⟨_, rfl⟩
    have HBZ := Lib.hid hbz
    clear hbz
    go_upto_region 22 with fail
    go_cut [100] (fun s100 wx => s100 = .bool bz ∧ w6 = wx)
    case first =>
      have hbz := HBZ.out
      clear HST HCZ
      by_cases he : e6 = 0
      · subst he
        by_cases hn : n = 0
        · obtain rfl : bz = true := by rw [← hbz]; simp [hn]
          have hn1 : ((n : Int) == 0) = true := by simp [hn]
          clear hn hbz HBZ
          go_wp2_with fail
          go_meet
          exact ⟨rfl, rfl⟩
        · obtain rfl : bz = false := by rw [← hbz]; simp [hn]
          have hn1 : ((n : Int) == 0) = false := by
            have : ¬ (n : Int) = 0 := by omega
            simpa using this
          clear hbz HBZ
          go_wp2_with fail
          go_meet
          exact ⟨rfl, rfl⟩
      · obtain rfl : bz = false := by rw [← hbz]; simp [he]
        have hez : (e6 == 0) = false := by simpa using he
        clear hbz HBZ
        go_wp2_with fail
        go_meet
        exact ⟨rfl, rfl⟩
    case rest =>
    obtain ⟨rfl, rfl⟩ := hcut
    go_upto_if 100 with fail
    go_cut [100] (fun _ wx => ∃ e7 : Int, e7 = (if e6 = 0 ∧ n = 0 then 7 else e6) ∧ RCur wx g s a6 e7 ∧ Blk wx gb 27 #[.string pre, .bool false, .slice none 0 0, .slice none 0 0] ∧ Blk wx rb 27 zPg ∧ Ext (· = g) w wx)
    case first =>
      cases bz
      · go_wp2_with fail
        go_meet
        exact ⟨e6, by rw [if_neg (of_decide_eq_false HBZ.out)], hc6, hgb, hrb, hx⟩
      · go_wp2_with fail
        go_meet
        have hse := Ext.self w6 g 2 (.int .i64 7)
        exact ⟨7, by rw [if_pos (of_decide_eq_true HBZ.out)], Blk.set hc6 2 _, hgb.ext hse hgg, hrb.ext hse (fun e => hgr e.symm), hx.trans hse (fun _ _ h => h)⟩
    case rest =>
    clear hc6 hgb hrb hx c0 c1 c2 f2
    obtain ⟨e7, hst, hc6, hgb, hrb, hx⟩ := hcut
    replace hst := HST.out e7 hst
    replace HST := Lib.hid hst
    clear hst HCZ HBZ
    go_wp2_with fail
    go_loopw [8] (RSlRel w s pre g rb gb n r) (fun i _ => n - (RowKit.intOf i).toNat)
    case atStart => exact ⟨[], none, 0, a6, e7, rfl, Nat.zero_le _, hca, Own.nil _ _ _ _, hgb, hrb, hc6, hx, HST.out⟩
    case round =>
      clear hgb hrb hc6 hx HST hca
      obtain ⟨l, A, c, a2, e2, rfl, hl, ha2, hown, hgb, hrb, hcur, hext, hrst⟩ := hrel
      have hl0 : (0 : Int) ≤ (l.length : Int) := Int.natCast_nonneg _
      by_cases hlt : l.length < n
      · obtain ⟨he2, q, hq, hrq⟩ : e2 = 0 ∧ ∃ q, slL s (n - l.length) a2 (lastS l) = q ∧ r = (l ++ q.1, q.2) := by
          rcases hrst with h | ⟨_, h, _⟩
          · exact h
          · omega
        subst he2
        have hlt1 : (l.length : Int) < (n : Int) := by omega
        have hlt2 : decide ((l.length : Int) < (n : Int)) = true := decide_eq_true hlt1
        have hnx : (Value.slice A l.length c).ownBlock ≠ some wr.heap.size := fun e => absurd (hown.lt _ e).2 (Nat.lt_irrefl _)
        have hbw : w.heap.size ≤ wr.heap.size := hext.size
        go_upto_region 28 with fail
        have hba := Blk.new wr 29 #[.int .u8 0, .string ⟨#[]⟩]
        replace hcur : RCur (wr.alloc (.cells #[.int .u8 0, .string ⟨#[]⟩] 29)) g s a2 0 := Blk.alloc hcur _
        replace hown := hown.alloc (.cells #[.int .u8 0, .string ⟨#[]⟩] 29)
        replace hgb := hgb.alloc (.cells #[.int .u8 0, .string ⟨#[]⟩] 29)
        replace hrb := hrb.alloc (.cells #[.int .u8 0, .string ⟨#[]⟩] 29)
        replace hext := hext.alloc (.cells #[.int .u8 0, .string ⟨#[]⟩] 29)
        clear hrst
        generalize hwa : wr.alloc (.cells #[.int .u8 0, .string ⟨#[]⟩] 29) = wa at *
        generalize hbx : wr.heap.size = bx at *
        clear hwa hbx
        obtain ⟨r3, hr3⟩ : ∃ r, byteR s a2 0 = r := ⟨_, rfl⟩
        obtain ⟨k, a3, e3⟩ := r3
        have ha3 : a3 ≤ s.size := by have := byteR_at (err := 0) ha2; rw [hr3] at this; exact this
        have hkr : 0 ≤ k ∧ k < 256 := by have := byteR_range s a2 0; rw [hr3] at this; exact this
        have hkw : IntKind.u8.wrap k = k := by rw [IntKind.wrap_u8]; omega
        have hkw2 : k % 256 = k := by omega
        have HB3 := Lib.hid hr3
        have HQ := Lib.hid hq
        have HRQ := Lib.hid hrq
        clear hr3 hq hrq
        go_wp2_with fail
        refine ref01_Byte g s a2 0 wa hcur ha2 hs ?_
        rw [HB3.out]
        dsimp only
        intro w3 hc3 hx3
        have hba3 := hba.ext hx3 (fun e => (hba.ne hcur (by decide)) e)
        have hgb3 := hgb.ext hx3 (fun e => (hgb.ne hcur (by decide)) e)
        have hrb3 := hrb.ext hx3 (fun e => (hrb.ne hcur (by decide)) e)
        have hoa3 := hown.apart hcur (by decide) hx3
        have hxa3 := hext.trans hx3 (fun _ _ h => h)
        have hgx : bx ≠ g := hba3.ne hc3 (by decide)
        clear hba hgb hrb hown hext hcur hx3

        have q0 := hba3.cell 0
        have f0 := hba3.frozen 0
        dsimp at q0
        go_upto_region 29 with fail
        clear q0 f0
        have hse := Ext.self w3 bx 0 (.int .u8 k)
        have hba : Blk (w3.setCell ⟨bx, 0, none⟩ (.int .u8 k)) bx 29 #[.int .u8 k, .string ⟨#[]⟩] := hba3.set 0 _
        have hgb := hgb3.ext hse (fun e => (hgb3.ne hba3 (by decide)) e)
        have hrb := hrb3.ext hse (fun e => (hrb3.ne hba3 (by decide)) e)
        have hown := hoa3.ext hse (fun b hb e => hnx (by rw [hb, e]))
        have hcur : RCur (w3.setCell ⟨bx, 0, none⟩ (.int .u8 k)) g s a3 e3 := Blk.ext hc3 hse (fun e => hgx e.symm)
        have hext : Ext (· = g) w (w3.setCell ⟨bx, 0, none⟩ (.int .u8 k)) := hxa3.setCell (p := ⟨bx, 0, none⟩) (fun h => absurd h (Nat.not_lt.2 hbw)) _
        clear hba3 hgb3 hrb3 hoa3 hc3 hxa3 hse
        generalize w3.setCell ⟨bx, 0, none⟩ (.int .u8 k) = w4 at *

        have q0 := hba.cell 0
        have p2 := hgb.cell 2
        
        dsimp at q0 p2
        obtain ⟨c0, c1, c2, _, f2⟩ := RCur.cells hcur
        by_cases he3 : e3 = 0
        · subst he3
          by_cases hlz : l.length = 0
          · have hz1 : ¬ (0 : Int) < (l.length : Int) := by omega
            have hz2 : decide ((0 : Int) < (l.length : Int)) = false := decide_eq_false hz1
            have hz3 : ¬ 0 < l.length := by omega
            have hz4 : decide (0 < l.length) = false := decide_eq_false hz3
            have he4 : (0 : Int) = if (0 : Int) ≠ 0 then 0 else if overS (lastS l) k = true then 6 else 0 := by
              unfold lastS; rw [if_pos hlz]; simp [overS]
            have HE := Lib.hid he4
            clear he4 hlz
            go_wp2_with fail
            go_quiet (fail)
            clear hz1 hz2 hz3 hz4
            have hba5 : Blk (w4.drewN nq) bx _ _ := hba
            have hgb5 : Blk (w4.drewN nq) gb _ _ := hgb
            have hrb5 : Blk (w4.drewN nq) rb _ _ := hrb
            have hoa5 : Own (w4.drewN nq) _ _ _ _ _ _ := hown
            have hc5 : RCur (w4.drewN nq) g s a3 0 := hcur
            have hxa5 : Ext (· = g) w (w4.drewN nq) := hext.drewN nq
            clear hba hgb hrb hown hcur hext q0 c0 c1 c2 f2
            try clear p0
            try clear p3
            have hE4 : 0 = if (0 : Int) ≠ 0 then (0 : Int) else if overS (lastS l) k = true then 6 else 0 := HE.out
            obtain ⟨r7, hr7⟩ : ∃ r, bytesR s a3 0 32 = r := ⟨_, rfl⟩
            obtain ⟨m, a7, e7⟩ := r7
            have ha7 : a7 ≤ s.size := by have := bytesR_at (err := 0) (n := 32) ha3; rw [hr7] at this; exact this
            have hstp := SlRel.step HQ.out HRQ.out hlt (slStep_eq HB3.out hE4 hr7)
            have HSTP := Lib.hid hstp
            have HR7 := Lib.hid hr7
            clear hstp hr7 hE4 HE
            go_wp2_with fail
            refine ref01_Bytes g s a3 0 32 _ hc5 ha3 hs ?_
            rw [HR7.out]
            dsimp only
            intro w7 hc7 hx7
            have hba7 := hba5.ext hx7 (fun e => (hba5.ne hc5 (by decide)) e)
            have hgb7 := hgb5.ext hx7 (fun e => (hgb5.ne hc5 (by decide)) e)
            have hrb7 := hrb5.ext hx7 (fun e => (hrb5.ne hc5 (by decide)) e)
            have hoa7 := hoa5.apart hc5 (by decide) hx7
            have hxa7 := hxa5.trans hx7 (fun _ _ h => h)
            have hgx : bx ≠ g := hba7.ne hc7 (by decide)
            clear hba5 hgb5 hrb5 hoa5 hxa5 hc5 hx7
            have q1 := hba7.cell 1
            have f1 := hba7.frozen 1
            dsimp at q1
            go_upto_region 32 with fail
            have hba8 : Blk (w7.setCell ⟨bx, 1, none⟩ (.string m)) bx 29 #[.int .u8 k, .string m] := hba7.set 1 _
            have hx78 : Ext (· = bx) w7 (w7.setCell ⟨bx, 1, none⟩ (.string m)) := Ext.self w7 bx 1 _
            have hoa8 := hoa7.ext hx78 (fun b hb e => hnx (by rw [hb, e]))
            have hgb8 := hgb7.ext hx78 (hgb7.ne hba7 (by decide))
            have hrb8 := hrb7.ext hx78 (hrb7.ne hba7 (by decide))
            have hc8 : RCur (w7.setCell ⟨bx, 1, none⟩ (.string m)) g s a7 e7 := Blk.ext hc7 hx78 (fun e => hgx e.symm)
            have hxa8 : Ext (· = g) w (w7.setCell ⟨bx, 1, none⟩ (.string m)) := hxa7.setCell (p := ⟨bx, 1, none⟩) (fun h => absurd h (Nat.not_lt.2 hbw)) _
            clear hba7 hoa7 hc7 hgb7 hrb7 hxa7 q1 f1 hx78
            generalize w7.setCell ⟨bx, 1, none⟩ (.string m) = w8 at *
            have q0 := hba8.cell 0
            have q1 := hba8.cell 1
            dsimp at q0 q1
            obtain ⟨c0, c1, c2, _, _⟩ := RCur.cells hc8
            have hW8 : w.heap.size ≤ w8.heap.size := hxa8.size
            by_cases he7 : e7 = 0
            · subst he7
              have hst7 : ∃ q, slL s (n - (l ++ [(k, m)]).length) a7 (lastS (l ++ [(k, m)])) = q ∧ r = ((l ++ [(k, m)]) ++ q.1, q.2) := by
                rcases HSTP.out with ⟨_, h⟩ | ⟨h, _⟩
                · exact h
                · exact absurd rfl h
              have HST7 := Lib.hid hst7
              have hlen : (l ++ [(k, m)]).length = l.length + 1 := by simp
              have HLEN := Lib.hid hlen
              clear hlen hst7 HSTP
              have p3 := hgb8.cell 2
              have f3 := hgb8.frozen 2
              dsimp at p3
              go_wp2_with (first
                | (at_builtin; refine wpList_append_one rfl _ _ _ (by rfl) w.heap.size 29 j0 _ 2 24 Try.underlying24 hj0 hy0 hy1 hy2 rfl (by decide) slC (.slice A l.length c) l (by rfl) (hoa8.alloc _) (k, m) ⟨w8.heap.size, 0, none⟩ 1 (by rfl) rfl ((Blk.new _ _ _).news rfl) (slC_one _) (by unfold maxLen; omega) (by omega) (Nat.le_trans hW8 (by simp)) ?_
                   intro g9 c9 w9 hown9 hx9 hst9
                   have hgb9 := (hgb8.alloc (.cells #[.int .u8 k, .string m] 29)).ext hx9 (Own.ne (hoa8.alloc (.cells #[.int .u8 k, .string m] 29)) (hgb8.alloc (.cells #[.int .u8 k, .string m] 29)) (by decide))
                   have p9 := hgb9.cell 2
                   have f9 := hgb9.frozen 2
                   dsimp at p9))
              have hc9 := (Blk.alloc hc8 (.cells #[.int .u8 k, .string m] 29)).ext hx9 (Own.ne (hoa8.alloc (.cells #[.int .u8 k, .string m] 29)) (Blk.alloc hc8 _) (by decide))
              have hrb9 := (hrb8.alloc (.cells #[.int .u8 k, .string m] 29)).ext hx9 (Own.ne (hoa8.alloc (.cells #[.int .u8 k, .string m] 29)) (hrb8.alloc (.cells #[.int .u8 k, .string m] 29)) (by decide))
              have hxa9 : Ext (· = g) w w9 := (hxa8.alloc (.cells #[.int .u8 k, .string m] 29)).trans hx9 (fun b hb e => absurd ((hoa8.alloc (.cells #[.int .u8 k, .string m] 29)).lt b e).1 (Nat.not_le.2 hb))
              have hng9 := Own.ne hown9 hgb9 (by decide)
              have hse := Ext.self w9 gb 2 (.slice (some ⟨g9, 0, none⟩) (l.length + 1) c9)
              go_roundw
              case rel => exact ⟨l ++ [(k, m)], some ⟨g9, 0, none⟩, c9, a7, 0, by rw [HLEN.out]; go_num, by rw [HLEN.out]; omega, ha7, by rw [HLEN.out]; exact hown9.ext hse (fun b hb e => hng9 (by rw [hb, e])), by rw [HLEN.out]; exact Blk.set hgb9 2 _, hrb9.ext hse hrg, Blk.ext hc9 hse (fun e => hgg e.symm), hxa9.setCell (p := ⟨gb, 2, none⟩) (fun h => absurd h (Nat.not_lt.2 hgbw)) _, .inl ⟨rfl, HST7.out⟩⟩
              case measure => simp [RowKit.intOf]; omega
            · have heb : (e7 != 0) = true := by simpa using he7
              have hr2 : r.2 = (a7, e7) := by
                rcases HSTP.out with ⟨h, _⟩ | ⟨_, h⟩
                · exact absurd h he7
                · exact h
              rw [hr2] at HR
              dsimp only at HR
              rw [if_neg he7] at HR
              dsimp only [noPage] at HR
              clear hr2 HSTP
              have d0 := hrb8.cell 0
              have d1 := hrb8.cell 1
              have d2 := hrb8.cell 2
              have d3 := hrb8.cell 3
              have g0 := hrb8.frozen 0
              have g1 := hrb8.frozen 1
              have g2 := hrb8.frozen 2
              have g3 := hrb8.frozen 3
              dsimp [zPg] at d0 d1 d2 d3
              go_wp2_with fail
              refine bodyPost_ret (v := .agg #[.string ⟨#[]⟩, .bool false, .slice none 0 0, .slice none 0 0]) (by simp [results, go_sem, d0, d1, d2, d3]) rfl ?_
              have hset := set4 w8 rb (.string ⟨#[]⟩) (.bool false) (.slice none 0 0) (.slice none 0 0)
              exact HR.out none none 0 0 _ (Row.nil _ _) (Row.nil _ _) (by decide) (by decide) (fun _ e => by cases e) (fun _ e => by cases e) (Blk.ext hc8 hset (fun e => hgr e)) ha7 (hxa8.trans hset (fun b hb e => absurd hb (by omega)))
          · have hz1 : (0 : Int) < (l.length : Int) := by omega
            have hz2 : decide ((0 : Int) < (l.length : Int)) = true := decide_eq_true hz1
            have hz3 : 0 < l.length := by omega
            have hz4 : decide (0 < l.length) = true := decide_eq_true hz3
            have hjw : wrap64 ((l.length : Int) - 1) = ((l.length - 1 : Nat) : Int) := by
              have e : (l.length : Int) - 1 = ((l.length - 1 : Nat) : Int) := by omega
              rw [e]; unfold wrap64; omega
            have hjl : ((l.length - 1 : Nat) : Int) < (l.length : Int) := by omega
            have hjn : (0 : Int) ≤ ((l.length - 1 : Nat) : Int) := Int.natCast_nonneg _
            obtain ⟨b, o, hA, hb, d0, d1⟩ := (Row.of_own hown).sl (l.length - 1) (by omega)
            obtain ⟨k', hk'⟩ : ∃ k', (l.getD (l.length - 1) (0, emp)).1 = k' := ⟨_, rfl⟩
            have hkl : lastS l = some k' := by unfold lastS; rw [if_neg hlz, hk']
            rw [hk'] at d0
            have HKL := Lib.hid hkl
            clear hkl hlz hk' d1
            subst hA
            by_cases hL : k ≤ k'
            · have hLd : decide (k ≤ k') = true := decide_eq_true hL
              have he4 : (6 : Int) = if (0 : Int) ≠ 0 then 0 else if overS (lastS l) k = true then 6 else 0 := by
                rw [HKL.out]; simp [overS, hL]
              have HE := Lib.hid he4
              clear he4 HKL
              go_wp2_with fail
              go_quiet (fail)
              clear hz1 hz2 hz3 hz4 hjw hjl hjn d0 hL hLd
              have hba5 : Blk (w4.drewN nq) bx _ _ := hba
              have hgb5 : Blk (w4.drewN nq) gb _ _ := hgb
              have hrb5 : Blk (w4.drewN nq) rb _ _ := hrb
              have hoa5 : Own (w4.drewN nq) _ _ _ _ _ _ := hown
              have hc5 : RCur (w4.drewN nq) g s a3 0 := hcur
              have hxa5 : Ext (· = g) w (w4.drewN nq) := hext.drewN nq
              clear hba hgb hrb hown hcur hext q0 c0 c1 c2 f2
              try clear p0
              try clear p3
              generalize hwb : w4.drewN nq = wc at *
              clear hwb
              obtain ⟨c0, c1, c2, _, f2⟩ := RCur.cells hc5
              go_upto_region 31 with fail
              have hse := Ext.self wc g 2 (.int .i64 6)
              replace hba5 := hba5.ext hse (fun e => hgx e)
              replace hgb5 := hgb5.ext hse hgg
              replace hrb5 := hrb5.ext hse (fun e => hgr e.symm)
              replace hoa5 := hoa5.apart hc5 (by decide) hse
              replace hc5 : RCur (wc.setCell ⟨g, 2, none⟩ (.int .i64 6)) g s a3 6 := Blk.set hc5 2 _
              replace hxa5 := hxa5.trans hse (fun _ _ h => h)
              clear c2 f2 hse
              generalize wc.setCell ⟨g, 2, none⟩ (.int .i64 6) = wd at *
              
              have hE4 : 6 = if (0 : Int) ≠ 0 then (0 : Int) else if overS (lastS l) k = true then 6 else 0 := HE.out
              obtain ⟨r7, hr7⟩ : ∃ r, bytesR s a3 6 32 = r := ⟨_, rfl⟩
              obtain ⟨m, a7, e7⟩ := r7
              have ha7 : a7 ≤ s.size := by have := bytesR_at (err := 6) (n := 32) ha3; rw [hr7] at this; exact this
              have hstp := SlRel.step HQ.out HRQ.out hlt (slStep_eq HB3.out hE4 hr7)
              have HSTP := Lib.hid hstp
              have HR7 := Lib.hid hr7
              clear hstp hr7 hE4 HE
              go_wp2_with fail
              refine ref01_Bytes g s a3 6 32 _ hc5 ha3 hs ?_
              rw [HR7.out]
              dsimp only
              intro w7 hc7 hx7
              have hba7 := hba5.ext hx7 (fun e => (hba5.ne hc5 (by decide)) e)
              have hgb7 := hgb5.ext hx7 (fun e => (hgb5.ne hc5 (by decide)) e)
              have hrb7 := hrb5.ext hx7 (fun e => (hrb5.ne hc5 (by decide)) e)
              have hoa7 := hoa5.apart hc5 (by decide) hx7
              have hxa7 := hxa5.trans hx7 (fun _ _ h => h)
              have hgx : bx ≠ g := hba7.ne hc7 (by decide)
              clear hba5 hgb5 hrb5 hoa5 hxa5 hc5 hx7
              have q1 := hba7.cell 1
              have f1 := hba7.frozen 1
              dsimp at q1
              go_upto_region 32 with fail
              have hba8 : Blk (w7.setCell ⟨bx, 1, none⟩ (.string m)) bx 29 #[.int .u8 k, .string m] := hba7.set 1 _
              have hx78 : Ext (· = bx) w7 (w7.setCell ⟨bx, 1, none⟩ (.string m)) := Ext.self w7 bx 1 _
              have hoa8 := hoa7.ext hx78 (fun b hb e => hnx (by rw [hb, e]))
              have hgb8 := hgb7.ext hx78 (hgb7.ne hba7 (by decide))
              have hrb8 := hrb7.ext hx78 (hrb7.ne hba7 (by decide))
              have hc8 : RCur (w7.setCell ⟨bx, 1, none⟩ (.string m)) g s a7 e7 := Blk.ext hc7 hx78 (fun e => hgx e.symm)
              have hxa8 : Ext (· = g) w (w7.setCell ⟨bx, 1, none⟩ (.string m)) := hxa7.setCell (p := ⟨bx, 1, none⟩) (fun h => absurd h (Nat.not_lt.2 hbw)) _
              clear hba7 hoa7 hc7 hgb7 hrb7 hxa7 q1 f1 hx78
              generalize w7.setCell ⟨bx, 1, none⟩ (.string m) = w8 at *
              have q0 := hba8.cell 0
              have q1 := hba8.cell 1
              dsimp at q0 q1
              obtain ⟨c0, c1, c2, _, _⟩ := RCur.cells hc8
              have hW8 : w.heap.size ≤ w8.heap.size := hxa8.size
              by_cases he7 : e7 = 0
              · subst he7
                have hst7 : ∃ q, slL s (n - (l ++ [(k, m)]).length) a7 (lastS (l ++ [(k, m)])) = q ∧ r = ((l ++ [(k, m)]) ++ q.1, q.2) := by
                  rcases HSTP.out with ⟨_, h⟩ | ⟨h, _⟩
                  · exact h
                  · exact absurd rfl h
                have HST7 := Lib.hid hst7
                have hlen : (l ++ [(k, m)]).length = l.length + 1 := by simp
                have HLEN := Lib.hid hlen
                clear hlen hst7 HSTP
                have p3 := hgb8.cell 2
                have f3 := hgb8.frozen 2
                dsimp at p3
                go_wp2_with (first
                  | (at_builtin; refine wpList_append_one rfl _ _ _ (by rfl) w.heap.size 29 j0 _ 2 24 Try.underlying24 hj0 hy0 hy1 hy2 rfl (by decide) slC (.slice (some ⟨b, o, none⟩) l.length c) l (by rfl) (hoa8.alloc _) (k, m) ⟨w8.heap.size, 0, none⟩ 1 (by rfl) rfl ((Blk.new _ _ _).news rfl) (slC_one _) (by unfold maxLen; omega) (by omega) (Nat.le_trans hW8 (by simp)) ?_
                     intro g9 c9 w9 hown9 hx9 hst9
                     have hgb9 := (hgb8.alloc (.cells #[.int .u8 k, .string m] 29)).ext hx9 (Own.ne (hoa8.alloc (.cells #[.int .u8 k, .string m] 29)) (hgb8.alloc (.cells #[.int .u8 k, .string m] 29)) (by decide))
                     have p9 := hgb9.cell 2
                     have f9 := hgb9.frozen 2
                     dsimp at p9))
                have hc9 := (Blk.alloc hc8 (.cells #[.int .u8 k, .string m] 29)).ext hx9 (Own.ne (hoa8.alloc (.cells #[.int .u8 k, .string m] 29)) (Blk.alloc hc8 _) (by decide))
                have hrb9 := (hrb8.alloc (.cells #[.int .u8 k, .string m] 29)).ext hx9 (Own.ne (hoa8.alloc (.cells #[.int .u8 k, .string m] 29)) (hrb8.alloc (.cells #[.int .u8 k, .string m] 29)) (by decide))
                have hxa9 : Ext (· = g) w w9 := (hxa8.alloc (.cells #[.int .u8 k, .string m] 29)).trans hx9 (fun b hb e => absurd ((hoa8.alloc (.cells #[.int .u8 k, .string m] 29)).lt b e).1 (Nat.not_le.2 hb))
                have hng9 := Own.ne hown9 hgb9 (by decide)
                have hse := Ext.self w9 gb 2 (.slice (some ⟨g9, 0, none⟩) (l.length + 1) c9)
                go_roundw
                case rel => exact ⟨l ++ [(k, m)], some ⟨g9, 0, none⟩, c9, a7, 0, by rw [HLEN.out]; go_num, by rw [HLEN.out]; omega, ha7, by rw [HLEN.out]; exact hown9.ext hse (fun b hb e => hng9 (by rw [hb, e])), by rw [HLEN.out]; exact Blk.set hgb9 2 _, hrb9.ext hse hrg, Blk.ext hc9 hse (fun e => hgg e.symm), hxa9.setCell (p := ⟨gb, 2, none⟩) (fun h => absurd h (Nat.not_lt.2 hgbw)) _, .inl ⟨rfl, HST7.out⟩⟩
                case measure => simp [RowKit.intOf]; omega
              · have heb : (e7 != 0) = true := by simpa using he7
                have hr2 : r.2 = (a7, e7) := by
                  rcases HSTP.out with ⟨h, _⟩ | ⟨_, h⟩
                  · exact absurd h he7
                  · exact h
                rw [hr2] at HR
                dsimp only at HR
                rw [if_neg he7] at HR
                dsimp only [noPage] at HR
                clear hr2 HSTP
                have d0 := hrb8.cell 0
                have d1 := hrb8.cell 1
                have d2 := hrb8.cell 2
                have d3 := hrb8.cell 3
                have g0 := hrb8.frozen 0
                have g1 := hrb8.frozen 1
                have g2 := hrb8.frozen 2
                have g3 := hrb8.frozen 3
                dsimp [zPg] at d0 d1 d2 d3
                go_wp2_with fail
                refine bodyPost_ret (v := .agg #[.string ⟨#[]⟩, .bool false, .slice none 0 0, .slice none 0 0]) (by simp [results, go_sem, d0, d1, d2, d3]) rfl ?_
                have hset := set4 w8 rb (.string ⟨#[]⟩) (.bool false) (.slice none 0 0) (.slice none 0 0)
                exact HR.out none none 0 0 _ (Row.nil _ _) (Row.nil _ _) (by decide) (by decide) (fun _ e => by cases e) (fun _ e => by cases e) (Blk.ext hc8 hset (fun e => hgr e)) ha7 (hxa8.trans hset (fun b hb e => absurd hb (by omega)))
            · have hLd : decide (k ≤ k') = false := decide_eq_false hL
              have he4 : (0 : Int) = if (0 : Int) ≠ 0 then 0 else if overS (lastS l) k = true then 6 else 0 := by
                rw [HKL.out]; simp [overS, hL]
              have HE := Lib.hid he4
              clear he4 HKL
              go_wp2_with fail
              go_quiet (fail)
              clear hz1 hz2 hz3 hz4 hjw hjl hjn d0 hL hLd
              have hba5 : Blk (w4.drewN nq) bx _ _ := hba
              have hgb5 : Blk (w4.drewN nq) gb _ _ := hgb
              have hrb5 : Blk (w4.drewN nq) rb _ _ := hrb
              have hoa5 : Own (w4.drewN nq) _ _ _ _ _ _ := hown
              have hc5 : RCur (w4.drewN nq) g s a3 0 := hcur
              have hxa5 : Ext (· = g) w (w4.drewN nq) := hext.drewN nq
              clear hba hgb hrb hown hcur hext q0 c0 c1 c2 f2
              try clear p0
              try clear p3
              have hE4 : 0 = if (0 : Int) ≠ 0 then (0 : Int) else if overS (lastS l) k = true then 6 else 0 := HE.out
              obtain ⟨r7, hr7⟩ : ∃ r, bytesR s a3 0 32 = r := ⟨_, rfl⟩
              obtain ⟨m, a7, e7⟩ := r7
              have ha7 : a7 ≤ s.size := by have := bytesR_at (err := 0) (n := 32) ha3; rw [hr7] at this; exact this
              have hstp := SlRel.step HQ.out HRQ.out hlt (slStep_eq HB3.out hE4 hr7)
              have HSTP := Lib.hid hstp
              have HR7 := Lib.hid hr7
              clear hstp hr7 hE4 HE
              go_wp2_with fail
              refine ref01_Bytes g s a3 0 32 _ hc5 ha3 hs ?_
              rw [HR7.out]
              dsimp only
              intro w7 hc7 hx7
              have hba7 := hba5.ext hx7 (fun e => (hba5.ne hc5 (by decide)) e)
              have hgb7 := hgb5.ext hx7 (fun e => (hgb5.ne hc5 (by decide)) e)
              have hrb7 := hrb5.ext hx7 (fun e => (hrb5.ne hc5 (by decide)) e)
              have hoa7 := hoa5.apart hc5 (by decide) hx7
              have hxa7 := hxa5.trans hx7 (fun _ _ h => h)
              have hgx : bx ≠ g := hba7.ne hc7 (by decide)
              clear hba5 hgb5 hrb5 hoa5 hxa5 hc5 hx7
              have q1 := hba7.cell 1
              have f1 := hba7.frozen 1
              dsimp at q1
              go_upto_region 32 with fail
              have hba8 : Blk (w7.setCell ⟨bx, 1, none⟩ (.string m)) bx 29 #[.int .u8 k, .string m] := hba7.set 1 _
              have hx78 : Ext (· = bx) w7 (w7.setCell ⟨bx, 1, none⟩ (.string m)) := Ext.self w7 bx 1 _
              have hoa8 := hoa7.ext hx78 (fun b hb e => hnx (by rw [hb, e]))
              have hgb8 := hgb7.ext hx78 (hgb7.ne hba7 (by decide))
              have hrb8 := hrb7.ext hx78 (hrb7.ne hba7 (by decide))
              have hc8 : RCur (w7.setCell ⟨bx, 1, none⟩ (.string m)) g s a7 e7 := Blk.ext hc7 hx78 (fun e => hgx e.symm)
              have hxa8 : Ext (· = g) w (w7.setCell ⟨bx, 1, none⟩ (.string m)) := hxa7.setCell (p := ⟨bx, 1, none⟩) (fun h => absurd h (Nat.not_lt.2 hbw)) _
              clear hba7 hoa7 hc7 hgb7 hrb7 hxa7 q1 f1 hx78
              generalize w7.setCell ⟨bx, 1, none⟩ (.string m) = w8 at *
              have q0 := hba8.cell 0
              have q1 := hba8.cell 1
              dsimp at q0 q1
              obtain ⟨c0, c1, c2, _, _⟩ := RCur.cells hc8
              have hW8 : w.heap.size ≤ w8.heap.size := hxa8.size
              by_cases he7 : e7 = 0
              · subst he7
                have hst7 : ∃ q, slL s (n - (l ++ [(k, m)]).length) a7 (lastS (l ++ [(k, m)])) = q ∧ r = ((l ++ [(k, m)]) ++ q.1, q.2) := by
                  rcases HSTP.out with ⟨_, h⟩ | ⟨h, _⟩
                  · exact h
                  · exact absurd rfl h
                have HST7 := Lib.hid hst7
                have hlen : (l ++ [(k, m)]).length = l.length + 1 := by simp
                have HLEN := Lib.hid hlen
                clear hlen hst7 HSTP
                have p3 := hgb8.cell 2
                have f3 := hgb8.frozen 2
                dsimp at p3
                go_wp2_with (first
                  | (at_builtin; refine wpList_append_one rfl _ _ _ (by rfl) w.heap.size 29 j0 _ 2 24 Try.underlying24 hj0 hy0 hy1 hy2 rfl (by decide) slC (.slice (some ⟨b, o, none⟩) l.length c) l (by rfl) (hoa8.alloc _) (k, m) ⟨w8.heap.size, 0, none⟩ 1 (by rfl) rfl ((Blk.new _ _ _).news rfl) (slC_one _) (by unfold maxLen; omega) (by omega) (Nat.le_trans hW8 (by simp)) ?_
                     intro g9 c9 w9 hown9 hx9 hst9
                     have hgb9 := (hgb8.alloc (.cells #[.int .u8 k, .string m] 29)).ext hx9 (Own.ne (hoa8.alloc (.cells #[.int .u8 k, .string m] 29)) (hgb8.alloc (.cells #[.int .u8 k, .string m] 29)) (by decide))
                     have p9 := hgb9.cell 2
                     have f9 := hgb9.frozen 2
                     dsimp at p9))
                have hc9 := (Blk.alloc hc8 (.cells #[.int .u8 k, .string m] 29)).ext hx9 (Own.ne (hoa8.alloc (.cells #[.int .u8 k, .string m] 29)) (Blk.alloc hc8 _) (by decide))
                have hrb9 := (hrb8.alloc (.cells #[.int .u8 k, .string m] 29)).ext hx9 (Own.ne (hoa8.alloc (.cells #[.int .u8 k, .string m] 29)) (hrb8.alloc (.cells #[.int .u8 k, .string m] 29)) (by decide))
                have hxa9 : Ext (· = g) w w9 := (hxa8.alloc (.cells #[.int .u8 k, .string m] 29)).trans hx9 (fun b hb e => absurd ((hoa8.alloc (.cells #[.int .u8 k, .string m] 29)).lt b e).1 (Nat.not_le.2 hb))
                have hng9 := Own.ne hown9 hgb9 (by decide)
                have hse := Ext.self w9 gb 2 (.slice (some ⟨g9, 0, none⟩) (l.length + 1) c9)
                go_roundw
                case rel => exact ⟨l ++ [(k, m)], some ⟨g9, 0, none⟩, c9, a7, 0, by rw [HLEN.out]; go_num, by rw [HLEN.out]; omega, ha7, by rw [HLEN.out]; exact hown9.ext hse (fun b hb e => hng9 (by rw [hb, e])), by rw [HLEN.out]; exact Blk.set hgb9 2 _, hrb9.ext hse hrg, Blk.ext hc9 hse (fun e => hgg e.symm), hxa9.setCell (p := ⟨gb, 2, none⟩) (fun h => absurd h (Nat.not_lt.2 hgbw)) _, .inl ⟨rfl, HST7.out⟩⟩
                case measure => simp [RowKit.intOf]; omega
              · have heb : (e7 != 0) = true := by simpa using he7
                have hr2 : r.2 = (a7, e7) := by
                  rcases HSTP.out with ⟨h, _⟩ | ⟨_, h⟩
                  · exact absurd h he7
                  · exact h
                rw [hr2] at HR
                dsimp only at HR
                rw [if_neg he7] at HR
                dsimp only [noPage] at HR
                clear hr2 HSTP
                have d0 := hrb8.cell 0
                have d1 := hrb8.cell 1
                have d2 := hrb8.cell 2
                have d3 := hrb8.cell 3
                have g0 := hrb8.frozen 0
                have g1 := hrb8.frozen 1
                have g2 := hrb8.frozen 2
                have g3 := hrb8.frozen 3
                dsimp [zPg] at d0 d1 d2 d3
                go_wp2_with fail
                refine bodyPost_ret (v := .agg #[.string ⟨#[]⟩, .bool false, .slice none 0 0, .slice none 0 0]) (by simp [results, go_sem, d0, d1, d2, d3]) rfl ?_
                have hset := set4 w8 rb (.string ⟨#[]⟩) (.bool false) (.slice none 0 0) (.slice none 0 0)
                exact HR.out none none 0 0 _ (Row.nil _ _) (Row.nil _ _) (by decide) (by decide) (fun _ e => by cases e) (fun _ e => by cases e) (Blk.ext hc8 hset (fun e => hgr e)) ha7 (hxa8.trans hset (fun b hb e => absurd hb (by omega)))
        · have hez : (e3 == 0) = false := by simpa using he3
          have he4 : e3 = if e3 ≠ 0 then e3 else if overS (lastS l) k = true then 6 else 0 := by rw [if_pos he3]
          have HE := Lib.hid he4
          clear he4
          go_wp2_with fail
          go_quiet (fail)
          have hba5 : Blk (w4.drewN nq) bx _ _ := hba
          have hgb5 : Blk (w4.drewN nq) gb _ _ := hgb
          have hrb5 : Blk (w4.drewN nq) rb _ _ := hrb
          have hoa5 : Own (w4.drewN nq) _ _ _ _ _ _ := hown
          have hc5 : RCur (w4.drewN nq) g s a3 e3 := hcur
          have hxa5 : Ext (· = g) w (w4.drewN nq) := hext.drewN nq
          clear hba hgb hrb hown hcur hext q0 c0 c1 c2 f2
          try clear p0
          try clear p3
          have hE4 : e3 = if e3 ≠ 0 then e3 else if overS (lastS l) k = true then 6 else 0 := HE.out
          obtain ⟨r7, hr7⟩ : ∃ r, bytesR s a3 e3 32 = r := ⟨_, rfl⟩
          obtain ⟨m, a7, e7⟩ := r7
          have ha7 : a7 ≤ s.size := by have := bytesR_at (err := e3) (n := 32) ha3; rw [hr7] at this; exact this
          have hstp := SlRel.step HQ.out HRQ.out hlt (slStep_eq HB3.out hE4 hr7)
          have HSTP := Lib.hid hstp
          have HR7 := Lib.hid hr7
          clear hstp hr7 hE4 HE
          go_wp2_with fail
          refine ref01_Bytes g s a3 e3 32 _ hc5 ha3 hs ?_
          rw [HR7.out]
          dsimp only
          intro w7 hc7 hx7
          have hba7 := hba5.ext hx7 (fun e => (hba5.ne hc5 (by decide)) e)
          have hgb7 := hgb5.ext hx7 (fun e => (hgb5.ne hc5 (by decide)) e)
          have hrb7 := hrb5.ext hx7 (fun e => (hrb5.ne hc5 (by decide)) e)
          have hoa7 := hoa5.apart hc5 (by decide) hx7
          have hxa7 := hxa5.trans hx7 (fun _ _ h => h)
          have hgx : bx ≠ g := hba7.ne hc7 (by decide)
          clear hba5 hgb5 hrb5 hoa5 hxa5 hc5 hx7
          have q1 := hba7.cell 1
          have f1 := hba7.frozen 1
          dsimp at q1
          go_upto_region 32 with fail
          have hba8 : Blk (w7.setCell ⟨bx, 1, none⟩ (.string m)) bx 29 #[.int .u8 k, .string m] := hba7.set 1 _
          have hx78 : Ext (· = bx) w7 (w7.setCell ⟨bx, 1, none⟩ (.string m)) := Ext.self w7 bx 1 _
          have hoa8 := hoa7.ext hx78 (fun b hb e => hnx (by rw [hb, e]))
          have hgb8 := hgb7.ext hx78 (hgb7.ne hba7 (by decide))
          have hrb8 := hrb7.ext hx78 (hrb7.ne hba7 (by decide))
          have hc8 : RCur (w7.setCell ⟨bx, 1, none⟩ (.string m)) g s a7 e7 := Blk.ext hc7 hx78 (fun e => hgx e.symm)
          have hxa8 : Ext (· = g) w (w7.setCell ⟨bx, 1, none⟩ (.string m)) := hxa7.setCell (p := ⟨bx, 1, none⟩) (fun h => absurd h (Nat.not_lt.2 hbw)) _
          clear hba7 hoa7 hc7 hgb7 hrb7 hxa7 q1 f1 hx78
          generalize w7.setCell ⟨bx, 1, none⟩ (.string m) = w8 at *
          have q0 := hba8.cell 0
          have q1 := hba8.cell 1
          dsimp at q0 q1
          obtain ⟨c0, c1, c2, _, _⟩ := RCur.cells hc8
          have hW8 : w.heap.size ≤ w8.heap.size := hxa8.size
          by_cases he7 : e7 = 0
          · subst he7
            have hst7 : ∃ q, slL s (n - (l ++ [(k, m)]).length) a7 (lastS (l ++ [(k, m)])) = q ∧ r = ((l ++ [(k, m)]) ++ q.1, q.2) := by
              rcases HSTP.out with ⟨_, h⟩ | ⟨h, _⟩
              · exact h
              · exact absurd rfl h
            have HST7 := Lib.hid hst7
            have hlen : (l ++ [(k, m)]).length = l.length + 1 := by simp
            have HLEN := Lib.hid hlen
            clear hlen hst7 HSTP
            have p3 := hgb8.cell 2
            have f3 := hgb8.frozen 2
            dsimp at p3
            go_wp2_with (first
              | (at_builtin; refine wpList_append_one rfl _ _ _ (by rfl) w.heap.size 29 j0 _ 2 24 Try.underlying24 hj0 hy0 hy1 hy2 rfl (by decide) slC (.slice A l.length c) l (by rfl) (hoa8.alloc _) (k, m) ⟨w8.heap.size, 0, none⟩ 1 (by rfl) rfl ((Blk.new _ _ _).news rfl) (slC_one _) (by unfold maxLen; omega) (by omega) (Nat.le_trans hW8 (by simp)) ?_
                 intro g9 c9 w9 hown9 hx9 hst9
                 have hgb9 := (hgb8.alloc (.cells #[.int .u8 k, .string m] 29)).ext hx9 (Own.ne (hoa8.alloc (.cells #[.int .u8 k, .string m] 29)) (hgb8.alloc (.cells #[.int .u8 k, .string m] 29)) (by decide))
                 have p9 := hgb9.cell 2
                 have f9 := hgb9.frozen 2
                 dsimp at p9))
            have hc9 := (Blk.alloc hc8 (.cells #[.int .u8 k, .string m] 29)).ext hx9 (Own.ne (hoa8.alloc (.cells #[.int .u8 k, .string m] 29)) (Blk.alloc hc8 _) (by decide))
            have hrb9 := (hrb8.alloc (.cells #[.int .u8 k, .string m] 29)).ext hx9 (Own.ne (hoa8.alloc (.cells #[.int .u8 k, .string m] 29)) (hrb8.alloc (.cells #[.int .u8 k, .string m] 29)) (by decide))
            have hxa9 : Ext (· = g) w w9 := (hxa8.alloc (.cells #[.int .u8 k, .string m] 29)).trans hx9 (fun b hb e => absurd ((hoa8.alloc (.cells #[.int .u8 k, .string m] 29)).lt b e).1 (Nat.not_le.2 hb))
            have hng9 := Own.ne hown9 hgb9 (by decide)
            have hse := Ext.self w9 gb 2 (.slice (some ⟨g9, 0, none⟩) (l.length + 1) c9)
            go_roundw
            case rel => exact ⟨l ++ [(k, m)], some ⟨g9, 0, none⟩, c9, a7, 0, by rw [HLEN.out]; go_num, by rw [HLEN.out]; omega, ha7, by rw [HLEN.out]; exact hown9.ext hse (fun b hb e => hng9 (by rw [hb, e])), by rw [HLEN.out]; exact Blk.set hgb9 2 _, hrb9.ext hse hrg, Blk.ext hc9 hse (fun e => hgg e.symm), hxa9.setCell (p := ⟨gb, 2, none⟩) (fun h => absurd h (Nat.not_lt.2 hgbw)) _, .inl ⟨rfl, HST7.out⟩⟩
            case measure => simp [RowKit.intOf]; omega
          · have heb : (e7 != 0) = true := by simpa using he7
            have hr2 : r.2 = (a7, e7) := by
              rcases HSTP.out with ⟨h, _⟩ | ⟨_, h⟩
              · exact absurd h he7
              · exact h
            rw [hr2] at HR
            dsimp only at HR
            rw [if_neg he7] at HR
            dsimp only [noPage] at HR
            clear hr2 HSTP
            have d0 := hrb8.cell 0
            have d1 := hrb8.cell 1
            have d2 := hrb8.cell 2
            have d3 := hrb8.cell 3
            have g0 := hrb8.frozen 0
            have g1 := hrb8.frozen 1
            have g2 := hrb8.frozen 2
            have g3 := hrb8.frozen 3
            dsimp [zPg] at d0 d1 d2 d3
            go_wp2_with fail
            refine bodyPost_ret (v := .agg #[.string ⟨#[]⟩, .bool false, .slice none 0 0, .slice none 0 0]) (by simp [results, go_sem, d0, d1, d2, d3]) rfl ?_
            have hset := set4 w8 rb (.string ⟨#[]⟩) (.bool false) (.slice none 0 0) (.slice none 0 0)
            exact HR.out none none 0 0 _ (Row.nil _ _) (Row.nil _ _) (by decide) (by decide) (fun _ e => by cases e) (fun _ e => by cases e) (Blk.ext hc8 hset (fun e => hgr e)) ha7 (hxa8.trans hset (fun b hb e => absurd hb (by omega)))
      · have hlt1 : ¬ (l.length : Int) < (n : Int) := by omega
        have hlt2 : decide ((l.length : Int) < (n : Int)) = false := decide_eq_false hlt1
        obtain ⟨c0, c1, c2, _, _⟩ := RCur.cells hcur
        by_cases he2 : e2 = 0
        · obtain ⟨q, hq, hrq⟩ : ∃ q, slL s (n - l.length) a2 (lastS l) = q ∧ r = (l ++ q.1, q.2) := by
            rcases hrst with ⟨_, h⟩ | ⟨h, _⟩
            · exact h
            · exact absurd he2 h
          rw [show n - l.length = 0 by omega, slL] at hq
          subst he2 hq hrq
          dsimp only at HR
          rw [if_pos rfl, List.append_nil] at HR
          dsimp only at HR
          clear hrst
          have q0 := hgb.cell 0
          have q1 := hgb.cell 1
          have q2 := hgb.cell 2
          have q3 := hgb.cell 3
          have d0 := hrb.cell 0
          have d1 := hrb.cell 1
          have d2 := hrb.cell 2
          have d3 := hrb.cell 3
          have g0 := hrb.frozen 0
          have g1 := hrb.frozen 1
          have g2 := hrb.frozen 2
          have g3 := hrb.frozen 3
          dsimp [zPg] at q0 q1 q2 q3 d0 d1 d2 d3
          go_wp2_with fail
          refine bodyPost_ret (v := .agg #[.string pre, .bool false, .slice A l.length c, .slice none 0 0]) (by simp [results, go_sem, d0, d1, d2, d3]) rfl ?_
          have hset := set4 wr rb (.string pre) (.bool false) (.slice A l.length c) (.slice none 0 0)
          have hnr := Own.ne hown hrb (by decide)
          exact HR.out A none c 0 _ (Row.of_own (hown.ext hset (fun b hb e => hnr (by rw [hb, e])))) (Row.nil _ _) (by omega) (by decide) (fun ad e => (hown.lt ad.block (by rw [e]; rfl)).1) (fun _ e => by cases e) (Blk.ext hcur hset (fun e => hgr e)) ha2 (hext.trans hset (fun b hb e => absurd hb (by omega)))
        · obtain ⟨_, _, hrq⟩ : e2 ≠ 0 ∧ n = 0 ∧ r = ([], a2, e2) := by
            rcases hrst with ⟨h, _⟩ | h
            · exact absurd h he2
            · exact h
          have heb : (e2 != 0) = true := by simpa using he2
          subst hrq
          dsimp only at HR
          rw [if_neg he2] at HR
          dsimp only [noPage] at HR
          clear hrst
          have d0 := hrb.cell 0
          have d1 := hrb.cell 1
          have d2 := hrb.cell 2
          have d3 := hrb.cell 3
          have g0 := hrb.frozen 0
          have g1 := hrb.frozen 1
          have g2 := hrb.frozen 2
          have g3 := hrb.frozen 3
          dsimp [zPg] at d0 d1 d2 d3
          go_wp2_with fail
          refine bodyPost_ret (v := .agg #[.string ⟨#[]⟩, .bool false, .slice none 0 0, .slice none 0 0]) (by simp [results, go_sem, d0, d1, d2, d3]) rfl ?_
          have hset := set4 wr rb (.string ⟨#[]⟩) (.bool false) (.slice none 0 0) (.slice none 0 0)
          exact HR.out none none 0 0 _ (Row.nil _ _) (Row.nil _ _) (by decide) (by decide) (fun _ e => by cases e) (fun _ e => by cases e) (Blk.ext hcur hset (fun e => hgr e)) ha2 (hext.trans hset (fun b hb e => absurd hb (by omega)))
end
end Go.Proofs.Ytokjkpoegcnijaa
