/- spenceref20.Great, Put, Encode. -/
import Derived.Test.YtlkjonlipnmbnaaRef20Check
import Derived.Test.YtlkjonlipnmbnaaPageEnc
import Derived.Test.YtlkjonlipnmbnaaBlobPut
namespace Go.Proofs.Ytlkjonlipnmbnaa
open Go.RowKit Go.Lib
section
def RdRel (W : World) (n : Nat) (i : Value) (w : World) : Prop := ∃ j : Nat, i = .int .i64 (j : Int) ∧ j ≤ n ∧ w = W

def RPutI (W : World) (g : Nat) (t : ByteArray) (max err : Int) (tx : Nat → List ByteArray) (n : Nat) (i : Value) (w : World) : Prop :=
  ∃ j : Nat, j ≤ n ∧ i = .int .i64 (j : Int) ∧ RPen w g (penPuts t max err (tx j)).1 max (penPuts t max err (tx j)).2 ∧ Ext (· = g) W w

set_option maxHeartbeats 2000000 in
set_option maxRecDepth 100000 in
theorem ref20_Put (gp : Nat) (t : ByteArray) (max err : Int) (g : PgV) (A1 A2 : Option Addr) (c1 c2 : Nat) (w : World) (h : RPen w gp t max err)
    (h0 : 0 ≤ max) (h1 : max ≤ 9223372036854775807) (hz : t.size ≤ 1000000)
    (hr1 : Row w A1 (flat slC g.sl)) (hr2 : Row w A2 (flat itC g.it)) (hsb : ∀ j, j < g.sl.length → 0 ≤ (g.sl.getD j (0, emp)).1 ∧ (g.sl.getD j (0, emp)).1 < 256)
    (hA1 : ∀ ad, A1 = some ad → flat slC g.sl ≠ [] → ad.block ≠ gp) (hA2 : ∀ ad, A2 = some ad → flat itC g.it ≠ [] → ad.block ≠ gp) {R : Ending → World → Prop}
    (hR : ∀ w', RPen w' gp (pagePut t max err g).1 max (pagePut t max err g).2 → Ext (· = gp) w w' → R (.returned (.tuple #[])) w') :
    Calls Try.prog 49 #[.pointer (some ⟨gp, 0, none⟩), .agg #[.string g.pre, .bool g.leaf, .slice A1 g.sl.length c1, .slice A2 g.it.length c2]] w R := by
  have hck := ref20_Check g A1 A2 c1 c2
  obtain ⟨e, he⟩ : ∃ e, checkR g = e := ⟨_, rfl⟩
  have hpp : pagePut t max err g = if e ≠ 0 then (t, if err = 0 then e else err) else pageBody t max err g := by unfold pagePut; rw [he]
  rw [hpp] at hR
  rw [he] at hck
  have hok : e = 0 → PgOk g := fun c => checkR_ok (he.trans c)
  obtain ⟨pre, leaf, sl, it⟩ := g
  dsimp only at hr1 hr2 hA1 hA2 hck hsb ⊢
  have hx0 : Ext (· = gp) w (w.alloc (.cells #[.string pre, .bool leaf, .slice A1 sl.length c1, .slice A2 it.length c2] 27)) := (Ext.refl _ _).alloc _
  have HBP := Blk.new w 27 #[.string pre, .bool leaf, .slice A1 sl.length c1, .slice A2 it.length c2]
  have H1 := hr1.alloc (.cells #[.string pre, .bool leaf, .slice A1 sl.length c1, .slice A2 it.length c2] 27)
  have H2 := hr2.alloc (.cells #[.string pre, .bool leaf, .slice A1 sl.length c1, .slice A2 it.length c2] 27)
  have hpn : RPen (w.alloc (.cells #[.string pre, .bool leaf, .slice A1 sl.length c1, .slice A2 it.length c2] 27)) gp t max err := Blk.alloc h _
  have hnb : w.heap.size ≠ gp := fun e => absurd (Blk.lt h) (by omega)
  have HR := Lib.hid hR
  clear hR hr1 hr2 he hpp h
  have p0 := HBP.cell 0
  have p1 := HBP.cell 1
  have p2 := HBP.cell 2
  have p3 := HBP.cell 3
  dsimp at p0 p1 p2 p3
  go_enter Try.func49, Try.ntmps49
  go_wp2_with fail
  generalize hw1 : w.alloc (.cells #[.string pre, .bool leaf, .slice A1 sl.length c1, .slice A2 it.length c2] 27) = w1 at *
  generalize hbk : w.heap.size = bp at *
  refine hck w1 H1 H2 ?_
  intro w2 hb2
  have hxF : Ext (fun _ => False) w1 w2 := (Ext.of_below hb2).mono (fun b hb e => absurd e (by omega))
  have hx2 : Ext (· = gp) w w2 := hx0.trans (hxF.mono (S' := (· = gp)) (fun _ _ h => h.elim)) (fun _ _ h => h)
  have HBP2 := HBP.ext hxF id
  have hp2 : RPen w2 gp t max err := hpn.ext hxF id
  have H1 := H1.ext hxF (fun _ _ _ => id)
  have H2 := H2.ext hxF (fun _ _ _ => id)
  clear hb2 hck hxF hx0 hpn HBP p0 p1 p2 p3
  have p0 := HBP2.cell 0
  have p1 := HBP2.cell 1
  have p2 := HBP2.cell 2
  have p3 := HBP2.cell 3
  dsimp at p0 p1 p2 p3
  by_cases hz0 : e = 0
  · subst hz0
    have hgk := hok rfl
    rw [if_neg (by decide)] at HR
    clear hok
    have HX2 := Lib.hid hx2
    clear hx2
    have hpre : pre.size ≤ 31 := hgk.pre
    obtain ⟨r1, hr1⟩ : ∃ r, blobPut t max err 31 pre = r := ⟨_, rfl⟩
    have hz1 := blobPut_size t max err 31 pre
    rw [hr1] at hz1
    obtain ⟨t1, e1⟩ := r1
    dsimp only at hz1
    obtain ⟨r2, hr2⟩ : ∃ r, flagPut t1 max e1 leaf = r := ⟨_, rfl⟩
    have hz2 := flagPut_size t1 max e1 leaf
    rw [hr2] at hz2
    obtain ⟨t2, e2⟩ := r2
    dsimp only at hz2
    go_wp2_with fail
    refine ref06_Put gp t max err 31 pre _ hp2 h0 h1 (by omega) (by decide) ?_
    rw [hr1]
    dsimp only
    intro w3 hp3 hx3
    clear p0 p1 p2 p3
    have HBP3 := HBP2.ext hx3 hnb
    have p1 := HBP3.cell 1
    dsimp at p1
    go_wp2_with fail
    refine ref06_PutFlag gp t1 max e1 leaf _ hp3 h0 h1 (by omega) ?_
    rw [hr2]
    dsimp only
    intro w4 hp4 hx4
    have hx4 := hx3.trans hx4 (fun _ _ h => h)
    clear p1 HBP3 hp3 hx3
    have HBP4 := HBP2.ext hx4 hnb
    have p1 := HBP4.cell 1
    have p2 := HBP4.cell 2
    have p3 := HBP4.cell 3
    dsimp at p1 p2 p3
    cases leaf
    · have hbd : pageBody t max err ⟨pre, false, sl, it⟩ = penPuts (countPut t2 max e2 256 sl.length).1 max (countPut t2 max e2 256 sl.length).2 (textsS sl) := by
        unfold pageBody; dsimp only; rw [hr1]; dsimp only; rw [hr2]; rfl
      rw [hbd] at HR
      obtain ⟨_, hs1, hs2⟩ := hgk.nl rfl
      dsimp only at hs1 hs2
      obtain ⟨r3, hr3⟩ : ∃ r, countPut t2 max e2 256 sl.length = r := ⟨_, rfl⟩
      have hz3 := countPut_size t2 max e2 256 sl.length
      rw [hr3] at hz3 HR
      obtain ⟨t3, e3⟩ := r3
      dsimp only at hz3 HR
      have hsz : ∀ j, j < sl.length → (sl.getD j (0, emp)).2.size = 32 := fun j hj => (slF_zero (hgk.sls j hj)).2
      clear hbd hr1 hr2 hgk H2 hA2
      go_wp2_with fail
      refine ref06_PutCount gp t2 max e2 256 sl.length _ hp4 h0 h1 (by omega) (by decide) (by omega) ?_
      rw [hr3]
      dsimp only
      intro w5 hp5 hx5
      have hx5 := hx4.trans hx5 (fun _ _ h => h)
      clear p1 p2 p3 HBP4 hp4 hx4
      go_wp2_with fail
      have HSZ := Lib.hid hsz
      have HSB := Lib.hid hsb
      clear hsz hsb
      go_loopw [6] (RPutI w2 gp t3 max e3 (fun j => textsS (sl.take j)) sl.length) (fun i _ => sl.length - (RowKit.intOf i).toNat)
      case atStart => exact ⟨0, Nat.zero_le _, rfl, hp5, hx5⟩
      case round =>
        obtain ⟨j, hj, rfl, hpen, hext⟩ := hrel
        dsimp only at hpen
        have hj0 : (0 : Int) ≤ (j : Int) := Int.natCast_nonneg _
        clear hp5 hx5
        have HBP5 := HBP2.ext hext hnb
        have p2 := HBP5.cell 2
        dsimp at p2
        by_cases hlt : j < sl.length
        · have hj1 : (j : Int) < (sl.length : Int) := by omega
          have hjd : decide (j < sl.length) = true := by simpa using hlt
          have hrw := H1.ext hext hA1
          obtain ⟨b, o, rfl, hb, d0, d1⟩ := hrw.sl j hlt
          obtain ⟨⟨k, m⟩, hkm⟩ : ∃ x, sl.getD j (0, emp) = x := ⟨_, rfl⟩
          have hkr := HSB.out j hlt
          have hmz := HSZ.out j hlt
          rw [hkm] at d0 d1 hkr hmz
          dsimp only at d0 d1 hkr hmz
          have hts := penPuts_size max (textsS (sl.take j)) t3 e3
          rw [textsS_total HSZ.out j hj] at hts
          have hsn : penPuts t3 max e3 (textsS (sl.take (j + 1))) = penPut (penPut (penPuts t3 max e3 (textsS (sl.take j))).1 max (penPuts t3 max e3 (textsS (sl.take j))).2 (one k)).1 max (penPut (penPuts t3 max e3 (textsS (sl.take j))).1 max (penPuts t3 max e3 (textsS (sl.take j))).2 (one k)).2 m := by
            rw [textsS_snoc hlt hkm, penPuts_append, penPuts_append]; rfl
          generalize penPuts t3 max e3 (textsS (sl.take j)) = r6 at *
          obtain ⟨t6, e6⟩ := r6
          dsimp only at hts hpen hsn
          obtain ⟨r7, hr7⟩ : ∃ r, penPut t6 max e6 (one k) = r := ⟨_, rfl⟩
          have hts7 := penPut_size t6 max e6 (one k)
          rw [hr7] at hsn hts7
          obtain ⟨t7, e7⟩ := r7
          dsimp only at hsn hts7
          rw [one_sz] at hts7
          have HR7 := Lib.hid hr7
          have HSN := Lib.hid hsn
          have HKR := Lib.hid hkr
          have HKM := Lib.hid hkm
          clear hr7 hsn hkr hkm
          go_wp2_with fail
          refine ref02_Byte gp t6 max e6 k _ hpen (by omega) h0 h1 HKR.out ?_
          rw [HR7.out]
          dsimp only
          intro w7 hp7 hx7
          have hrw7 := hrw.ext hx7 hA1
          have hx7 := hext.trans hx7 (fun _ _ h => h)
          have HBP7 := HBP2.ext hx7 hnb
          have p2 := HBP7.cell 2
          obtain ⟨b', o', he', _, d0, d1⟩ := hrw7.sl j hlt
          cases he'
          rw [HKM.out] at d0 d1
          dsimp at p2 d0 d1
          go_wp2_with fail
          refine ref02_Text gp t7 max e7 m _ hp7 (by omega) h0 h1 ?_
          intro w8 hp8 hx8
          have hx8 := hx7.trans hx8 (fun _ _ h => h)
          rw [← HSN.out] at hp8
          go_wp2
          go_roundw
          case rel => exact ⟨j + 1, by omega, by go_num, hp8, hx8⟩
          case measure => simp [RowKit.intOf]; omega
        · have hje : j = sl.length := by omega
          have hj1 : ¬ (j : Int) < (sl.length : Int) := by omega
          have hjd : decide (j < sl.length) = false := by simpa using hlt
          rw [hje, List.take_length] at hpen
          clear hje
          go_wp2_with fail
          refine bodyPost_ret (results_none rfl _ _ _) rfl ?_
          exact HR.out _ hpen (HX2.out.trans hext (fun _ _ h => h))
    · have hbd : pageBody t max err ⟨pre, true, sl, it⟩ = penPuts (countPut t2 max e2 8 it.length).1 max (countPut t2 max e2 8 it.length).2 (textsI it) := by
        unfold pageBody; dsimp only; rw [hr1]; dsimp only; rw [hr2]; rfl
      rw [hbd] at HR
      obtain ⟨_, hs2⟩ := hgk.lf rfl
      dsimp only at hs2
      obtain ⟨r3, hr3⟩ : ∃ r, countPut t2 max e2 8 it.length = r := ⟨_, rfl⟩
      have hz3 := countPut_size t2 max e2 8 it.length
      rw [hr3] at hz3 HR
      obtain ⟨t3, e3⟩ := r3
      dsimp only at hz3 HR
      have hsz : ∀ j, j < it.length → (it.getD j (emp, emp)).1.size = 32 ∧ (it.getD j (emp, emp)).2.size = 32 := fun j hj => ⟨(itF_zero (hgk.its j hj)).1, (itF_zero (hgk.its j hj)).2.2.2⟩
      clear hbd hr1 hr2 hgk H1 hA1 hsb
      go_wp2_with fail
      refine ref06_PutCount gp t2 max e2 8 it.length _ hp4 h0 h1 (by omega) (by decide) (by omega) ?_
      rw [hr3]
      dsimp only
      intro w5 hp5 hx5
      have hx5 := hx4.trans hx5 (fun _ _ h => h)
      clear p1 p2 p3 HBP4 hp4 hx4
      go_wp2_with fail
      have HSZ := Lib.hid hsz
      clear hsz
      go_loopw [5] (RPutI w2 gp t3 max e3 (fun j => textsI (it.take j)) it.length) (fun i _ => it.length - (RowKit.intOf i).toNat)
      case atStart => exact ⟨0, Nat.zero_le _, rfl, hp5, hx5⟩
      case round =>
        obtain ⟨j, hj, rfl, hpen, hext⟩ := hrel
        dsimp only at hpen
        have hj0 : (0 : Int) ≤ (j : Int) := Int.natCast_nonneg _
        clear hp5 hx5
        have HBP5 := HBP2.ext hext hnb
        have p3 := HBP5.cell 3
        dsimp at p3
        by_cases hlt : j < it.length
        · have hj1 : (j : Int) < (it.length : Int) := by omega
          have hjd : decide (j < it.length) = true := by simpa using hlt
          have hrw := H2.ext hext hA2
          obtain ⟨b, o, rfl, hb, d0, d1⟩ := hrw.it j hlt
          obtain ⟨⟨k, m⟩, hkm⟩ : ∃ x, it.getD j (emp, emp) = x := ⟨_, rfl⟩
          obtain ⟨hkz, hmz⟩ := HSZ.out j hlt
          rw [hkm] at d0 d1 hkz hmz
          dsimp only at d0 d1 hkz hmz
          have hts := penPuts_size max (textsI (it.take j)) t3 e3
          rw [textsI_total HSZ.out j hj] at hts
          have hsn : penPuts t3 max e3 (textsI (it.take (j + 1))) = penPut (penPut (penPuts t3 max e3 (textsI (it.take j))).1 max (penPuts t3 max e3 (textsI (it.take j))).2 k).1 max (penPut (penPuts t3 max e3 (textsI (it.take j))).1 max (penPuts t3 max e3 (textsI (it.take j))).2 k).2 m := by
            rw [textsI_snoc hlt hkm, penPuts_append]; rfl
          generalize penPuts t3 max e3 (textsI (it.take j)) = r6 at *
          obtain ⟨t6, e6⟩ := r6
          dsimp only at hts hpen hsn
          obtain ⟨r7, hr7⟩ : ∃ r, penPut t6 max e6 k = r := ⟨_, rfl⟩
          have hts7 := penPut_size t6 max e6 k
          rw [hr7] at hsn hts7
          obtain ⟨t7, e7⟩ := r7
          dsimp only at hsn hts7
          have HR7 := Lib.hid hr7
          have HSN := Lib.hid hsn
          have HKM := Lib.hid hkm
          clear hr7 hsn hkm
          go_wp2_with fail
          refine ref02_Text gp t6 max e6 k _ hpen (by omega) h0 h1 ?_
          rw [HR7.out]
          dsimp only
          intro w7 hp7 hx7
          have hrw7 := hrw.ext hx7 hA2
          have hx7 := hext.trans hx7 (fun _ _ h => h)
          have HBP7 := HBP2.ext hx7 hnb
          have p3 := HBP7.cell 3
          obtain ⟨b', o', he', _, d0, d1⟩ := hrw7.it j hlt
          cases he'
          rw [HKM.out] at d0 d1
          dsimp at p3 d0 d1
          go_wp2_with fail
          refine ref02_Text gp t7 max e7 m _ hp7 (by omega) h0 h1 ?_
          intro w8 hp8 hx8
          have hx8 := hx7.trans hx8 (fun _ _ h => h)
          rw [← HSN.out] at hp8
          go_wp2
          go_roundw
          case rel => exact ⟨j + 1, by omega, by go_num, hp8, hx8⟩
          case measure => simp [RowKit.intOf]; omega
        · have hje : j = it.length := by omega
          have hj1 : ¬ (j : Int) < (it.length : Int) := by omega
          have hjd : decide (j < it.length) = false := by simpa using hlt
          rw [hje, List.take_length] at hpen
          clear hje
          go_wp2_with fail
          refine bodyPost_ret (results_none rfl _ _ _) rfl ?_
          exact HR.out _ hpen (HX2.out.trans hext (fun _ _ h => h))
  · have hze : (e != 0) = true := by simpa using hz0
    rw [if_pos hz0] at HR
    clear p0 p1 p2 p3
    go_wp2_with fail
    refine ref02_Fail gp t max err e _ hp2 ?_
    intro w3 hp3 hx3
    go_wp2
    refine bodyPost_ret (results_none rfl _ _ _) rfl ?_
    exact HR.out _ hp3 (hx2.trans hx3 (fun _ _ h => h))

set_option maxHeartbeats 2000000 in
set_option maxRecDepth 100000 in
theorem ref20_Encode (g : PgV) (A1 A2 : Option Addr) (c1 c2 : Nat) (w : World)
    (hr1 : Row w A1 (flat slC g.sl)) (hr2 : Row w A2 (flat itC g.it)) (hsb : ∀ j, j < g.sl.length → 0 ≤ (g.sl.getD j (0, emp)).1 ∧ (g.sl.getD j (0, emp)).1 < 256) {R : Ending → World → Prop}
    (hR : ∀ w', Below w.heap.size w w' → R (.returned (.tuple #[.string (pageEnc g).1, .int .i64 (pageEnc g).2])) w') :
    Calls Try.prog 27 #[.agg #[.string g.pre, .bool g.leaf, .slice A1 g.sl.length c1, .slice A2 g.it.length c2]] w R := by
  have hck := fun gp w h => ref20_Put gp ⟨#[]⟩ 65536 0 g A1 A2 c1 c2 w h (by decide) (by decide) (by decide)
  have hpe := pagePut_enc g
  have hlt1 := Row.lt hr1
  have hlt2 := Row.lt hr2
  obtain ⟨pre, leaf, sl, it⟩ := g
  generalize hG : pagePut ⟨#[]⟩ 65536 0 ⟨pre, leaf, sl, it⟩ = r at *
  obtain ⟨t, e⟩ := r
  dsimp only at hr1 hr2 hck hsb hpe hlt1 hlt2 ⊢
  rw [← hpe] at hR
  clear hpe hG
  have hb0 : Below w.heap.size w (w.alloc (.cells #[.string pre, .bool leaf, .slice A1 sl.length c1, .slice A2 it.length c2] 27)) := ((Ext.refl (fun _ => False) w).alloc _).below (Nat.le_refl _) (fun _ _ h => h)
  have HBP := Blk.new w 27 #[.string pre, .bool leaf, .slice A1 sl.length c1, .slice A2 it.length c2]
  have H1 := hr1.below hb0 (Nat.le_refl _)
  have H2 := hr2.below hb0 (Nat.le_refl _)
  have HR := Lib.hid hR
  clear hR hr1 hr2
  go_enter Try.func27, Try.ntmps27
  go_wp2_with fail
  generalize hw1 : w.alloc (.cells #[.string pre, .bool leaf, .slice A1 sl.length c1, .slice A2 it.length c2] 27) = w1 at *
  refine ref02_New 65536 w1 ?_
  rw [if_neg (by decide)]
  intro gp w2 hp2 hg hb2
  have H1 := H1.below hb2 (Nat.le_refl _)
  have H2 := H2.below hb2 (Nat.le_refl _)
  have HB2 := HBP.below hb2 HBP.lt
  have p0 := HB2.cell 0
  have p1 := HB2.cell 1
  have p2 := HB2.cell 2
  have p3 := HB2.cell 3
  dsimp at p0 p1 p2 p3
  have hsz := hb0.size
  clear HBP HB2
  go_wp2_with fail
  refine hck gp w2 hp2 H1 H2 hsb (fun ad e hn hS => by have := hlt1 hn ad e; omega) (fun ad e hn hS => by have := hlt2 hn ad e; omega) ?_
  intro w3 hp3 hx3
  have hb3 : Below w.heap.size w w3 := hb0.trans (below_ext (hb2.mono hsz) hsz hx3 (fun b hS => by omega))
  go_wp2_with fail
  refine (ref02_End gp t 65536 e w3 hp3).mono ?_
  rintro e' w' ⟨rfl, n, rfl⟩
  go_wp2_with fail
  exact HR.out _ (below_drewN hb3 n)
end
end Go.Proofs.Ytlkjonlipnmbnaa
