/- page.Put, page.Encode. -/
import Derived.Test.YtlkjonlipnmbnaaPageCheck
import Derived.Test.YtlkjonlipnmbnaaBlobPut
namespace Go.Proofs.Ytlkjonlipnmbnaa
open Go.RowKit Go.Lib
section
def textsI (l : List It) : List ByteArray := l.flatMap (fun x => [x.1, x.2])
def textsS (l : List Sl) : List ByteArray := l.flatMap (fun x => [one x.1, x.2])
/-- A pen behind a right page. -/
def pageBody (t : ByteArray) (max err : Int) (g : PgV) : ByteArray × Int :=
  let r1 := blobPut t max err 31 g.pre
  let r2 := flagPut r1.1 max r1.2 g.leaf
  if g.leaf = true then
    let r3 := countPut r2.1 max r2.2 8 g.it.length
    penPuts r3.1 max r3.2 (textsI g.it)
  else
    let r3 := countPut r2.1 max r2.2 256 g.sl.length
    penPuts r3.1 max r3.2 (textsS g.sl)
def pagePut (t : ByteArray) (max err : Int) (g : PgV) : ByteArray × Int :=
  if checkR g ≠ 0 then (t, if err = 0 then checkR g else err) else pageBody t max err g
structure PgOk (g : PgV) : Prop where
  pre : g.pre.size ≤ 31
  lf : g.leaf = true → g.sl.length = 0 ∧ g.it.length ≤ 8
  nl : g.leaf = false → g.it.length = 0 ∧ 0 < g.sl.length ∧ g.sl.length ≤ 256
  its : ∀ j, j < g.it.length → itF g.pre g.it j = 0
  sls : ∀ j, j < g.sl.length → slF g.sl j = 0
theorem checkA_ok {g : PgV} (h : checkA g = 0) : g.pre.size ≤ 31 ∧ (g.leaf = true → g.sl.length = 0 ∧ g.it.length ≤ 8) ∧ (g.leaf = false → g.it.length = 0 ∧ 0 < g.sl.length ∧ g.sl.length ≤ 256) := by
  unfold checkA at h
  have h1 : ¬ 31 < g.pre.size := fun c => by rw [if_pos c] at h; omega
  rw [if_neg h1] at h
  have h2 : ¬ ((g.leaf = true ∧ 0 < g.sl.length) ∨ (g.leaf = false ∧ 0 < g.it.length)) := fun c => by rw [if_pos c] at h; omega
  rw [if_neg h2] at h
  have h3 : ¬ ((g.leaf = true ∧ 8 < g.it.length) ∨ (g.leaf = false ∧ 256 < g.sl.length)) := fun c => by rw [if_pos c] at h; omega
  rw [if_neg h3] at h
  have h4 : ¬ (g.leaf = false ∧ g.sl.length = 0) := fun c => by rw [if_pos c] at h; omega
  refine ⟨by omega, fun hl => ⟨Nat.eq_zero_of_not_pos (fun c => h2 (.inl ⟨hl, c⟩)), Nat.not_lt.1 (fun c => h3 (.inl ⟨hl, c⟩))⟩, fun hl => ⟨Nat.eq_zero_of_not_pos (fun c => h2 (.inr ⟨hl, c⟩)), Nat.pos_of_ne_zero (fun c => h4 ⟨hl, c⟩), Nat.not_lt.1 (fun c => h3 (.inr ⟨hl, c⟩))⟩⟩
theorem checkR_ok {g : PgV} (h : checkR g = 0) : PgOk g := by
  unfold checkR at h
  by_cases h1 : checkA g = 0
  · rw [if_neg (fun c => c h1)] at h
    by_cases h2 : firstErr (itF g.pre g.it) g.it.length = 0
    · rw [if_neg (fun c => c h2)] at h
      obtain ⟨a, b, c⟩ := checkA_ok h1
      exact ⟨a, b, c, firstErr_zero h2, firstErr_zero h⟩
    · rw [if_pos h2] at h; exact absurd h h2
  · rw [if_pos h1] at h; exact absurd h h1
theorem itF_zero {pre : ByteArray} {l : List It} {j : Nat} (h : itF pre l j = 0) : (l.getD j (emp, emp)).1.size = 32 ∧ beginsR (l.getD j (emp, emp)).1 pre = true ∧ (0 < j → leB (l.getD j (emp, emp)).1 (l.getD (j - 1) (emp, emp)).1 = false) ∧ (l.getD j (emp, emp)).2.size = 32 := by
  unfold itF itemR at h
  split at h
  · omega
  · split at h
    · omega
    · split at h
      · omega
      · split at h
        · omega
        · refine ⟨by omega, by simp_all, fun hj => ?_, by omega⟩
          next h1 h2 h3 h4 =>
            rw [lastK, if_neg (by omega)] at h3
            simpa [show j ≠ 0 by omega] using h3
theorem slF_zero {l : List Sl} {j : Nat} (h : slF l j = 0) : (0 < j → (l.getD (j - 1) (0, emp)).1 < (l.getD j (0, emp)).1) ∧ (l.getD j (0, emp)).2.size = 32 := by
  unfold slF at h
  split at h
  · omega
  · split at h
    · omega
    · exact ⟨fun hj => by omega, by omega⟩
theorem textsI_snoc {l : List It} {j : Nat} {k m : ByteArray} (hj : j < l.length) (h : l.getD j (emp, emp) = (k, m)) : textsI (l.take (j + 1)) = textsI (l.take j) ++ [k, m] := by
  rw [take_snoc l j (emp, emp) hj, h]; simp [textsI]
theorem textsS_snoc {l : List Sl} {j : Nat} {k : Int} {m : ByteArray} (hj : j < l.length) (h : l.getD j (0, emp) = (k, m)) : textsS (l.take (j + 1)) = textsS (l.take j) ++ [one k] ++ [m] := by
  rw [take_snoc l j (0, emp) hj, h]; simp [textsS]
theorem textsI_total {l : List It} (h : ∀ j, j < l.length → (l.getD j (emp, emp)).1.size = 32 ∧ (l.getD j (emp, emp)).2.size = 32) : ∀ j, j ≤ l.length → total (textsI (l.take j)) = 64 * j := by
  intro j
  induction j with
  | zero => intro _; simp [textsI, total]
  | succ j ih =>
    intro hj
    obtain ⟨⟨k, m⟩, hkm⟩ : ∃ x, l.getD j (emp, emp) = x := ⟨_, rfl⟩
    have := h j (by omega)
    rw [hkm] at this
    dsimp only at this
    rw [textsI_snoc (by omega) hkm, total_append, ih (by omega)]
    simp [total]; omega
theorem one_sz (b : Int) : (one b).size = 1 := rfl
theorem textsS_total {l : List Sl} (h : ∀ j, j < l.length → (l.getD j (0, emp)).2.size = 32) : ∀ j, j ≤ l.length → total (textsS (l.take j)) = 33 * j := by
  intro j
  induction j with
  | zero => intro _; simp [textsS, total]
  | succ j ih =>
    intro hj
    obtain ⟨⟨k, m⟩, hkm⟩ : ∃ x, l.getD j (0, emp) = x := ⟨_, rfl⟩
    have := h j (by omega)
    rw [hkm] at this
    dsimp only at this
    rw [textsS_snoc (by omega) hkm, total_append, total_append, ih (by omega)]
    simp [total, one_sz]; omega
theorem blobPut_size (t : ByteArray) (max err : Int) (m : Nat) (s : ByteArray) : (blobPut t max err m s).1.size ≤ t.size + s.size + 10 := by
  unfold blobPut
  split
  · show t.size ≤ _; omega
  · have := penPuts_size max [encR s.size, s] t err
    have h2 := encR_size s.size
    simp [total] at this; omega
theorem countPut_size (t : ByteArray) (max err : Int) (m n : Nat) : (countPut t max err m n).1.size ≤ t.size + 10 := by
  unfold countPut
  split
  · show t.size ≤ _; omega
  · have := penPut_size t max err (encR n)
    have h2 := encR_size n
    omega
theorem flagPut_size (t : ByteArray) (max err : Int) (b : Bool) : (flagPut t max err b).1.size ≤ t.size + 1 := by
  unfold flagPut
  have := penPut_size t max err (one (if b = true then 1 else 0))
  rw [one_sz] at this; omega

def PutI (W : World) (B g : Nat) (o : Option Nat) (t : ByteArray) (max err : Int) (tx : Nat → List ByteArray) (n : Nat) (i : Value) (w : World) : Prop :=
  ∃ (j : Nat) (o' : Option Nat), j ≤ n ∧ i = .int .i64 (j : Int) ∧ Pen w B g o' (penPuts t max err (tx j)).1 max (penPuts t max err (tx j)).2 ∧ OwnStep W o o' ∧ Ext (PenS g o) W w
theorem PenS.go {W w1 w2 : World} {g : Nat} {o o1 o2 : Option Nat} (ho : OwnStep W o o1) (hx : Ext (PenS g o) W w1) (ho2 : OwnStep w1 o1 o2) (hx2 : Ext (PenS g o1) w1 w2) : OwnStep W o o2 ∧ Ext (PenS g o) W w2 :=
  ⟨ho.trans ho2 hx.size, hx.trans hx2 (PenS.step ho)⟩
theorem PenS.goA {W w1 w2 : World} {g : Nat} {o o1 o2 : Option Nat} {x : Obj} (ho : OwnStep W o o1) (hx : Ext (PenS g o) W w1) (ho2 : OwnStep (w1.alloc x) o1 o2) (hx2 : Ext (PenS g o1) (w1.alloc x) w2) : OwnStep W o o2 ∧ Ext (PenS g o) W w2 :=
  PenS.go ho hx (OwnStep.trans (.refl w1 o1) ho2 (by simp)) (Ext.trans (S := PenS g o1) ((Ext.refl _ _).alloc _) hx2 (fun _ _ e => e))
theorem PenS.goAA {W w1 w2 : World} {g : Nat} {o o1 o2 : Option Nat} {x y : Obj} (ho : OwnStep W o o1) (hx : Ext (PenS g o) W w1) (ho2 : OwnStep ((w1.alloc x).alloc y) o1 o2) (hx2 : Ext (PenS g o1) ((w1.alloc x).alloc y) w2) : OwnStep W o o2 ∧ Ext (PenS g o) W w2 :=
  PenS.go ho hx (OwnStep.trans (.refl w1 o1) ho2 (by simp; omega)) (Ext.trans (S := PenS g o1) (((Ext.refl _ _).alloc _).alloc _) hx2 (fun _ _ e => e))

set_option maxHeartbeats 2000000 in
set_option maxRecDepth 100000 in
theorem page_Put (B gp : Nat) (op : Option Nat) (t : ByteArray) (max err : Int) (g : PgV) (A1 A2 : Option Addr) (c1 c2 : Nat) (w : World) (h : Pen w B gp op t max err) (hB : B ≤ w.heap.size)
    (h0 : 0 ≤ max) (h1 : max ≤ 9223372036854775807) (hz : t.size ≤ 1000000)
    (hr1 : Row w A1 (flat slC g.sl)) (hr2 : Row w A2 (flat itC g.it)) (hl1 : g.sl.length ≤ 140737488351232) (hl2 : g.it.length ≤ 140737488351232) (hsb : ∀ j, j < g.sl.length → 0 ≤ (g.sl.getD j (0, emp)).1 ∧ (g.sl.getD j (0, emp)).1 < 256)
    (hA1 : ∀ ad, A1 = some ad → flat slC g.sl ≠ [] → ¬ PenS gp op ad.block) (hA2 : ∀ ad, A2 = some ad → flat itC g.it ≠ [] → ¬ PenS gp op ad.block) {R : Ending → World → Prop}
    (hR : ∀ w' o', Pen w' B gp o' (pagePut t max err g).1 max (pagePut t max err g).2 → OwnStep w op o' → Ext (PenS gp op) w w' → R (.returned (.tuple #[])) w') :
    Calls Try.prog 43 #[.pointer (some ⟨gp, 0, none⟩), .agg #[.string g.pre, .bool g.leaf, .slice A1 g.sl.length c1, .slice A2 g.it.length c2]] w R := by
  have hck := page_Check g A1 A2 c1 c2
  obtain ⟨e, he⟩ : ∃ e, checkR g = e := ⟨_, rfl⟩
  have hpp : pagePut t max err g = if e ≠ 0 then (t, if err = 0 then e else err) else pageBody t max err g := by unfold pagePut; rw [he]
  rw [hpp] at hR
  rw [he] at hck
  have hok : e = 0 → PgOk g := fun c => checkR_ok (he.trans c)
  obtain ⟨pre, leaf, sl, it⟩ := g
  dsimp only at hr1 hr2 hl1 hl2 hA1 hA2 hck hsb ⊢
  have hx0 : Ext (PenS gp op) w (w.alloc (.cells #[.string pre, .bool leaf, .slice A1 sl.length c1, .slice A2 it.length c2] 27)) := (Ext.refl _ _).alloc _
  have ho0 : OwnStep w op op := .refl _ _
  have hs0 : w.heap.size ≤ (w.alloc (.cells #[.string pre, .bool leaf, .slice A1 sl.length c1, .slice A2 it.length c2] 27)).heap.size := by simp
  have HBP := Blk.new w 27 #[.string pre, .bool leaf, .slice A1 sl.length c1, .slice A2 it.length c2]
  have H1 := hr1.alloc (.cells #[.string pre, .bool leaf, .slice A1 sl.length c1, .slice A2 it.length c2] 27)
  have H2 := hr2.alloc (.cells #[.string pre, .bool leaf, .slice A1 sl.length c1, .slice A2 it.length c2] 27)
  have hpn := h.alloc (.cells #[.string pre, .bool leaf, .slice A1 sl.length c1, .slice A2 it.length c2] 27)
  have hnb := h.new
  have HR := Lib.hid hR
  clear hR hr1 hr2 he hpp h
  have p0 := HBP.cell 0
  have p1 := HBP.cell 1
  have p2 := HBP.cell 2
  have p3 := HBP.cell 3
  dsimp at p0 p1 p2 p3
  go_enter Try.func43, Try.ntmps43
  go_wp2_with fail
  generalize hw1 : w.alloc (.cells #[.string pre, .bool leaf, .slice A1 sl.length c1, .slice A2 it.length c2] 27) = w1 at *
  generalize hbk : w.heap.size = bp at *
  refine hck w1 H1 H2 hl1 hl2 ?_
  intro w2 hb2
  have hx2 : Ext (PenS gp op) w1 w2 := (Ext.of_below hb2).mono (fun b hb e => absurd e (by omega))
  have hB2 : B ≤ w2.heap.size := by have := hx2.size; omega
  have HBP2 := HBP.ext (S := fun _ => False) ((Ext.of_below hb2).mono (fun b hb e => absurd e (by omega))) id
  have hp2 := hpn.ext (S := fun _ => False) ((Ext.of_below hb2).mono (fun b hb e => absurd e (by omega))) id (fun _ _ => id)
  have H1 := H1.below hb2 (Nat.le_refl _)
  have H2 := H2.below hb2 (Nat.le_refl _)
  clear hb2 hck
  by_cases hz0 : e = 0
  · subst hz0
    have hgk := hok rfl
    rw [if_neg (by decide)] at HR
    clear hok
    have hx02 := hx0.trans hx2 (fun _ _ h => h)
    have HX02 := Lib.hid hx02
    clear hx0 hx2 hpn HBP p0 p1 p2 p3 hx02 ho0
    have p0 := HBP2.cell 0
    have p1 := HBP2.cell 1
    have p2 := HBP2.cell 2
    have p3 := HBP2.cell 3
    dsimp at p0 p1 p2 p3
    have hpre : pre.size ≤ 31 := hgk.pre
    obtain ⟨r1, hr1⟩ : ∃ r, blobPut t max err 31 pre = r := ⟨_, rfl⟩
    have hz1 := blobPut_size t max err 31 pre
    rw [hr1] at hz1
    obtain ⟨t1, e1⟩ := r1
    dsimp only at hz1
    obtain ⟨r2, hr2⟩ : ∃ r, flagPut t1 max e1 leaf = r := ⟨_, rfl⟩
    have hz2 := flagPut_size t1 max e1 leaf
    rw [hr2] at hz2
    obtain ⟨t2, e2⟩ := r2
    dsimp only at hz2
    go_wp2_with fail
    refine blob_Put B gp op t max err 31 _ _ pre _ (hp2.alloc _) (Nat.le_trans hB2 (by simp)) h0 h1 (StrsAt.new1 _ _ _) (fun ad e => by injection e with e; subst e; exact hp2.new) (by omega) (by decide) ?_
    rw [hr1]
    dsimp only
    intro w3 o3 hp3 ho3 hx3
    obtain ⟨ho3, hx3⟩ := PenS.goA (.refl w2 op) (Ext.refl _ w2) ho3 hx3
    have hB3 := Nat.le_trans hB2 hx3.size
    clear p0 p1 p2 p3
    have HBP3 := HBP2.ext hx3 hnb
    have p1 := HBP3.cell 1
    dsimp at p1
    go_wp2_with fail
    refine blob_PutFlag B gp o3 t1 max e1 leaf _ hp3 hB3 h0 h1 (by omega) ?_
    rw [hr2]
    dsimp only
    intro w4 o4 hp4 ho4 hx4
    obtain ⟨ho4, hx4⟩ := PenS.go ho3 hx3 ho4 hx4
    have hB4 := Nat.le_trans hB2 hx4.size
    clear p1 HBP3 hp3 hx3 ho3 hB3
    have HBP4 := HBP2.ext hx4 hnb
    have p1 := HBP4.cell 1
    have p2 := HBP4.cell 2
    have p3 := HBP4.cell 3
    dsimp at p1 p2 p3
    cases leaf
    · have hbd : pageBody t max err ⟨pre, false, sl, it⟩ = penPuts (countPut t2 max e2 256 sl.length).1 max (countPut t2 max e2 256 sl.length).2 (textsS sl) := by
        unfold pageBody; dsimp only; rw [hr1]; dsimp only; rw [hr2]; rfl
      rw [hbd] at HR
      obtain ⟨_, hs1, hs2⟩ := hgk.nl rfl
      dsimp only at hs1 hs2
      obtain ⟨r3, hr3⟩ : ∃ r, countPut t2 max e2 256 sl.length = r := ⟨_, rfl⟩
      have hz3 := countPut_size t2 max e2 256 sl.length
      rw [hr3] at hz3 HR
      obtain ⟨t3, e3⟩ := r3
      dsimp only at hz3 HR
      have hsz : ∀ j, j < sl.length → (sl.getD j (0, emp)).2.size = 32 := fun j hj => (slF_zero (hgk.sls j hj)).2
      clear hbd hr1 hr2 hgk H2 hA2 hl2
      go_wp2_with fail
      refine blob_PutCount B gp o4 t2 max e2 256 sl.length _ hp4 hB4 h0 h1 (by omega) (by decide) (by omega) ?_
      rw [hr3]
      dsimp only
      intro w5 o5 hp5 ho5 hx5
      obtain ⟨ho5, hx5⟩ := PenS.go ho4 hx4 ho5 hx5
      clear p1 p2 p3 HBP4 hp4 ho4 hx4 hB4
      have HBP5 := HBP2.ext hx5 hnb
      have p2 := HBP5.cell 2
      dsimp at p2
      go_wp2_with fail
      have HSZ := Lib.hid hsz
      have HSB := Lib.hid hsb
      clear hsz hsb p2 HBP5 HBP2
      go_loopw [55] (PutI w2 B gp op t3 max e3 (fun j => textsS (sl.take j)) sl.length) (fun i _ => sl.length - (RowKit.intOf i).toNat)
      case atStart => exact ⟨0, o5, Nat.zero_le _, rfl, hp5, ho5, hx5⟩
      case round =>
        obtain ⟨j, o6, hj, rfl, hpen, hown, hext⟩ := hrel
        dsimp only at hpen
        have hj0 : (0 : Int) ≤ (j : Int) := Int.natCast_nonneg _
        clear hp5 ho5 hx5
        by_cases hlt : j < sl.length
        · have hj1 : (j : Int) < (sl.length : Int) := by omega
          have hjd : decide (j < sl.length) = true := by simpa using hlt
          have hrw := H1.ext hext hA1
          obtain ⟨b, o, rfl, hb, d0, d1⟩ := hrw.sl j hlt
          obtain ⟨⟨k, m⟩, hkm⟩ : ∃ x, sl.getD j (0, emp) = x := ⟨_, rfl⟩
          have hkr := HSB.out j hlt
          have hmz := HSZ.out j hlt
          rw [hkm] at d0 d1 hkr hmz
          dsimp only at d0 d1 hkr hmz
          have hts := penPuts_size max (textsS (sl.take j)) t3 e3
          rw [textsS_total HSZ.out j hj] at hts
          have hsn : penPuts t3 max e3 (textsS (sl.take (j + 1))) = penPuts (penPuts (penPuts t3 max e3 (textsS (sl.take j))).1 max (penPuts t3 max e3 (textsS (sl.take j))).2 [one k]).1 max (penPuts (penPuts t3 max e3 (textsS (sl.take j))).1 max (penPuts t3 max e3 (textsS (sl.take j))).2 [one k]).2 [m] := by
            rw [textsS_snoc hlt hkm, penPuts_append, penPuts_append]
          generalize penPuts t3 max e3 (textsS (sl.take j)) = r6 at *
          obtain ⟨t6, e6⟩ := r6
          dsimp only at hts hpen hsn
          obtain ⟨r7, hr7⟩ : ∃ r, penPuts t6 max e6 [one k] = r := ⟨_, rfl⟩
          have hts7 := penPuts_size max [one k] t6 e6
          rw [hr7] at hsn hts7
          obtain ⟨t7, e7⟩ := r7
          dsimp only at hsn hts7
          have hto : total [one k] = 1 := rfl
          rw [hto] at hts7
          have HR7 := Lib.hid hr7
          have HSN := Lib.hid hsn
          have HKR := Lib.hid hkr
          have hbs := hext.size
          have hba := Blk.new wr 33 #[.int .u8 k, .string m]
          have q0 := hba.cell 0
          have q1 := hba.cell 1
          dsimp at q0 q1
          clear hr7 hsn hkr hkm hrw hto
          have hpa := hpen.alloc (.cells #[.int .u8 k, .string m] 33)
          have hxa := hext.alloc (.cells #[.int .u8 k, .string m] 33)
          have hBa : B ≤ (wr.alloc (.cells #[.int .u8 k, .string m] 33)).heap.size := Nat.le_trans hB2 hxa.size
          have hnx : ¬ PenS gp o6 wr.heap.size := hpen.new
          go_upto_region 17 with fail
          clear hpen hext hbs d0 d1
          generalize hwa : wr.alloc (.cells #[.int .u8 k, .string m] 33) = wa at *
          generalize hbx : wr.heap.size = bx at *
          clear hwa hbx
          go_wp2_with fail
          refine pen_Byte B gp o6 t6 max e6 _ _ _ [k] _ (hpa.alloc _) (Nat.le_trans hBa (by simp)) h0 h1 (IntsAt.new1 _ _ _ _) (fun b hb => by rw [List.mem_singleton] at hb; subst hb; exact HKR.out) (fun ad e _ => by injection e with e; subst e; exact hpa.new) (by show _ + 1 ≤ _; omega) (by decide) ?_
          rw [show [k].map one = [one k] from rfl, HR7.out]
          dsimp only
          intro w7 o7 hp7 ho7 hx7
          have hx67 : Ext (PenS gp o6) wa w7 := Ext.trans (S := PenS gp o6) ((Ext.refl _ _).alloc _) hx7 (fun _ _ e => e)
          have hb7 := hba.ext hx67 hnx
          have q1 := hb7.cell 1
          dsimp at q1
          obtain ⟨ho7, hx7⟩ := PenS.goA hown hxa ho7 hx7
          have hB7 := Nat.le_trans hB2 hx7.size
          clear hba hb7 hx67 hpa hxa hown
          go_wp2_with fail
          refine pen_Text B gp o7 t7 max e7 _ _ _ [m] _ (hp7.alloc _) (Nat.le_trans hB7 (by simp)) h0 h1 (StrsAt.new1 _ _ _) (fun ad e _ => by injection e with e; subst e; exact hp7.new) (by simp only [total, List.map_cons, List.map_nil, List.sum_cons, List.sum_nil]; omega) (by decide) ?_
          intro w8 o8 hp8 ho8 hx8
          obtain ⟨ho8, hx8⟩ := PenS.goA ho7 hx7 ho8 hx8
          rw [← HSN.out] at hp8
          go_wp2
          go_roundw
          case rel => exact ⟨j + 1, o8, by omega, by go_num, hp8, ho8, hx8⟩
          case measure => simp [RowKit.intOf]; omega
        · have hje : j = sl.length := by omega
          have hj1 : ¬ (j : Int) < (sl.length : Int) := by omega
          have hjd : decide (j < sl.length) = false := by simpa using hlt
          rw [hje, List.take_length] at hpen
          clear hje
          go_wp2_with fail
          refine bodyPost_ret (results_none rfl _ _ _) rfl ?_
          obtain ⟨ho, hx⟩ := PenS.go (.refl w op) HX02.out hown hext
          exact HR.out _ _ hpen ho hx
    · have hbd : pageBody t max err ⟨pre, true, sl, it⟩ = penPuts (countPut t2 max e2 8 it.length).1 max (countPut t2 max e2 8 it.length).2 (textsI it) := by
        unfold pageBody; dsimp only; rw [hr1]; dsimp only; rw [hr2]; rfl
      rw [hbd] at HR
      obtain ⟨_, hs2⟩ := hgk.lf rfl
      dsimp only at hs2
      obtain ⟨r3, hr3⟩ : ∃ r, countPut t2 max e2 8 it.length = r := ⟨_, rfl⟩
      have hz3 := countPut_size t2 max e2 8 it.length
      rw [hr3] at hz3 HR
      obtain ⟨t3, e3⟩ := r3
      dsimp only at hz3 HR
      have hsz : ∀ j, j < it.length → (it.getD j (emp, emp)).1.size = 32 ∧ (it.getD j (emp, emp)).2.size = 32 := fun j hj => ⟨(itF_zero (hgk.its j hj)).1, (itF_zero (hgk.its j hj)).2.2.2⟩
      clear hbd hr1 hr2 hgk H1 hA1 hl1 hsb
      go_wp2_with fail
      refine blob_PutCount B gp o4 t2 max e2 8 it.length _ hp4 hB4 h0 h1 (by omega) (by decide) (by omega) ?_
      rw [hr3]
      dsimp only
      intro w5 o5 hp5 ho5 hx5
      obtain ⟨ho5, hx5⟩ := PenS.go ho4 hx4 ho5 hx5
      clear p1 p2 p3 HBP4 hp4 ho4 hx4 hB4
      have HBP5 := HBP2.ext hx5 hnb
      have p3 := HBP5.cell 3
      dsimp at p3
      go_wp2_with fail
      have HSZ := Lib.hid hsz
      clear hsz p3 HBP5 HBP2
      go_loopw [35] (PutI w2 B gp op t3 max e3 (fun j => textsI (it.take j)) it.length) (fun i _ => it.length - (RowKit.intOf i).toNat)
      case atStart => exact ⟨0, o5, Nat.zero_le _, rfl, hp5, ho5, hx5⟩
      case round =>
        obtain ⟨j, o6, hj, rfl, hpen, hown, hext⟩ := hrel
        dsimp only at hpen
        have hj0 : (0 : Int) ≤ (j : Int) := Int.natCast_nonneg _
        clear hp5 ho5 hx5
        by_cases hlt : j < it.length
        · have hj1 : (j : Int) < (it.length : Int) := by omega
          have hjd : decide (j < it.length) = true := by simpa using hlt
          have hrw := H2.ext hext hA2
          obtain ⟨b, o, rfl, hb, d0, d1⟩ := hrw.it j hlt
          obtain ⟨⟨k, m⟩, hkm⟩ : ∃ x, it.getD j (emp, emp) = x := ⟨_, rfl⟩
          obtain ⟨hkz, hmz⟩ := HSZ.out j hlt
          rw [hkm] at d0 d1 hkz hmz
          dsimp only at d0 d1 hkz hmz
          have hts := penPuts_size max (textsI (it.take j)) t3 e3
          rw [textsI_total HSZ.out j hj] at hts
          have hsn : penPuts t3 max e3 (textsI (it.take (j + 1))) = penPuts (penPuts t3 max e3 (textsI (it.take j))).1 max (penPuts t3 max e3 (textsI (it.take j))).2 [k, m] := by
            rw [textsI_snoc hlt hkm, penPuts_append]
          generalize penPuts t3 max e3 (textsI (it.take j)) = r6 at *
          obtain ⟨t6, e6⟩ := r6
          dsimp only at hts hpen hsn
          have HSN := Lib.hid hsn
          have hba := Blk.new wr 38 #[.string k, .string m]
          have q0 := hba.cell 0
          have q1 := hba.cell 1
          dsimp at q0 q1
          clear hsn hkm hrw
          have hpa := hpen.alloc (.cells #[.string k, .string m] 38)
          have hxa := hext.alloc (.cells #[.string k, .string m] 38)
          have hBa : B ≤ (wr.alloc (.cells #[.string k, .string m] 38)).heap.size := Nat.le_trans hB2 hxa.size
          go_upto_region 11 with fail
          clear hpen hext d0 d1
          generalize hwa : wr.alloc (.cells #[.string k, .string m] 38) = wa at *
          generalize hbx : wr.heap.size = bx at *
          clear hwa hbx hba
          go_wp2_with fail
          refine pen_Text B gp o6 t6 max e6 _ _ _ [k, m] _ (hpa.alloc _) (Nat.le_trans hBa (by simp)) h0 h1 (StrsAt.new2 _ _ _ _) (fun ad e _ => by injection e with e; subst e; exact hpa.new) (by simp only [total, List.map_cons, List.map_nil, List.sum_cons, List.sum_nil]; omega) (by decide) ?_
          intro w8 o8 hp8 ho8 hx8
          obtain ⟨ho8, hx8⟩ := PenS.goA hown hxa ho8 hx8
          rw [← HSN.out] at hp8
          go_wp2
          go_roundw
          case rel => exact ⟨j + 1, o8, by omega, by go_num, hp8, ho8, hx8⟩
          case measure => simp [RowKit.intOf]; omega
        · have hje : j = it.length := by omega
          have hj1 : ¬ (j : Int) < (it.length : Int) := by omega
          have hjd : decide (j < it.length) = false := by simpa using hlt
          rw [hje, List.take_length] at hpen
          clear hje
          go_wp2_with fail
          refine bodyPost_ret (results_none rfl _ _ _) rfl ?_
          obtain ⟨ho, hx⟩ := PenS.go (.refl w op) HX02.out hown hext
          exact HR.out _ _ hpen ho hx
  · have hze : (e != 0) = true := by simpa using hz0
    rw [if_pos hz0] at HR
    clear p0 p1 p2 p3
    go_wp2_with fail
    refine pen_Fail B gp op t max err e _ hp2 ?_
    intro w3 hp3 hx3
    go_wp2
    refine bodyPost_ret (results_none rfl _ _ _) rfl ?_
    exact HR.out _ _ hp3 ho0 ((hx0.trans hx2 (fun _ _ h => h)).trans hx3 (fun _ _ h => h))
end
end Go.Proofs.Ytlkjonlipnmbnaa
