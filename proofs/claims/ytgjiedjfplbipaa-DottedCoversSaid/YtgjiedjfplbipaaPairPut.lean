/- pairs.Put, spenceref14.Put. -/
import Derived.Test.YtgjiedjfplbipaaPairCheck
import Derived.Test.YtgjiedjfplbipaaPagePut
namespace Go.Proofs.Ytgjiedjfplbipaa
open Go.RowKit Go.Lib
section
/-- A pen behind pairs. -/
def prPuts (max : Int) (q : ByteArray × Int) (l : List It) : ByteArray × Int :=
  l.foldl (fun q x => blobPut (blobPut q.1 max q.2 32 x.1).1 max (blobPut q.1 max q.2 32 x.1).2 32768 x.2) q
theorem prPuts_snoc (max : Int) (q : ByteArray × Int) (l : List It) (x : It) : prPuts max q (l ++ [x]) = blobPut (blobPut (prPuts max q l).1 max (prPuts max q l).2 32 x.1).1 max (blobPut (prPuts max q l).1 max (prPuts max q l).2 32 x.1).2 32768 x.2 := by
  unfold prPuts; rw [List.foldl_append]; rfl
def pairsPut (t : ByteArray) (max err : Int) (l : List It) : ByteArray × Int :=
  if checkP l ≠ 0 then (t, if err = 0 then checkP l else err) else prPuts max (countPut t max err 8 l.length) l
structure PrOk (l : List It) : Prop where
  len : l.length ≤ 8
  at_ : ∀ j, j < l.length → (l.getD j (emp, emp)).1.size ≤ 32 ∧ (l.getD j (emp, emp)).1.size ≠ 0 ∧ (0 < j → leB (l.getD j (emp, emp)).1 (l.getD (j - 1) (emp, emp)).1 = false) ∧ (l.getD j (emp, emp)).2.size ≤ 32768
theorem checkP_ok {l : List It} (h : checkP l = 0) : PrOk l := by
  unfold checkP checkL at h
  by_cases c : 8 < l.length
  · rw [if_pos c] at h; exact absurd h (by decide)
  · rw [if_neg c] at h
    refine ⟨by omega, fun j hj => ?_⟩
    have hz := firstErr_zero h j hj
    unfold prF at hz
    split at hz
    · exact absurd hz (by decide)
    · next h1 =>
      split at hz
      · exact absurd hz (by decide)
      · next h2 =>
        split at hz
        · exact absurd hz (by decide)
        · next h3 =>
          split at hz
          · exact absurd hz (by decide)
          · next h4 => exact ⟨by omega, h2, fun h0 => Bool.eq_false_iff.2 (fun e => h3 ⟨h0, e⟩), by omega⟩
theorem checkP_of {l : List It} (h : PrOk l) : checkP l = 0 := by
  unfold checkP checkL
  rw [if_neg (by have := h.len; omega)]
  refine firstErr_of (fun j hj => ?_)
  obtain ⟨h1, h2, h3, h4⟩ := h.at_ j hj
  unfold prF
  rw [if_neg (by omega), if_neg h2, if_neg (fun c => by rw [h3 c.1] at c; exact absurd c.2 (by decide)), if_neg (by omega)]
theorem prPuts_size {l : List It} (h : PrOk l) (max : Int) (q : ByteArray × Int) : ∀ j, j ≤ l.length → (prPuts max q (l.take j)).1.size ≤ q.1.size + 40000 * j := by
  intro j
  induction j with
  | zero => intro _; rw [List.take_zero]; exact Nat.le_refl _
  | succ j ih =>
    intro hj
    obtain ⟨h1, _, _, h4⟩ := h.at_ j (by omega)
    rw [take_snoc l j (emp, emp) (by omega), prPuts_snoc]
    have z1 := blobPut_size (prPuts max q (l.take j)).1 max (prPuts max q (l.take j)).2 32 (l.getD j (emp, emp)).1
    have z2 := blobPut_size (blobPut (prPuts max q (l.take j)).1 max (prPuts max q (l.take j)).2 32 (l.getD j (emp, emp)).1).1 max (blobPut (prPuts max q (l.take j)).1 max (prPuts max q (l.take j)).2 32 (l.getD j (emp, emp)).1).2 32768 (l.getD j (emp, emp)).2
    have z3 := ih (by omega)
    omega
def PPutI (W : World) (B g : Nat) (o : Option Nat) (max : Int) (q : ByteArray × Int) (l : List It) (i : Value) (w : World) : Prop :=
  ∃ (j : Nat) (o' : Option Nat), j ≤ l.length ∧ i = .int .i64 (j : Int) ∧ Pen w B g o' (prPuts max q (l.take j)).1 max (prPuts max q (l.take j)).2 ∧ OwnStep W o o' ∧ Ext (PenS g o) W w
def RPPutI (W : World) (g : Nat) (max : Int) (q : ByteArray × Int) (l : List It) (i : Value) (w : World) : Prop :=
  ∃ (j : Nat), j ≤ l.length ∧ i = .int .i64 (j : Int) ∧ RPen w g (prPuts max q (l.take j)).1 max (prPuts max q (l.take j)).2 ∧ Ext (· = g) W w

set_option maxHeartbeats 2000000 in
set_option maxRecDepth 100000 in
theorem pairs_Put (B gp : Nat) (op : Option Nat) (t : ByteArray) (max err : Int) (l : List It) (A : Option Addr) (c : Nat) (w : World) (h : Pen w B gp op t max err) (hB : B ≤ w.heap.size)
    (h0 : 0 ≤ max) (h1 : max ≤ 9223372036854775807) (hz : t.size ≤ 1000000) (hr : Row w A (flat itC l)) (hA : ∀ ad, A = some ad → flat itC l ≠ [] → ¬ PenS gp op ad.block) {R : Ending → World → Prop}
    (hR : ∀ w' o', Pen w' B gp o' (pairsPut t max err l).1 max (pairsPut t max err l).2 → OwnStep w op o' → Ext (PenS gp op) w w' → R (.returned (.tuple #[])) w') :
    Calls Try.prog 29 #[.pointer (some ⟨gp, 0, none⟩), .slice A l.length c] w R := by
  have HR := Lib.hid hR
  clear hR
  unfold pairsPut at HR
  obtain ⟨e, he⟩ : ∃ e, checkP l = e := ⟨_, rfl⟩
  have hok : e = 0 → PrOk l := fun c => checkP_ok (he.trans c)
  rw [he] at HR
  go_enter Try.func29, Try.ntmps29
  go_wp2_with fail
  refine pairs_Check l A c w hr ?_
  have he' : checkL 8 (prF l) l.length = e := he
  rw [he']
  intro w1 hb1
  have hx1 : Ext (PenS gp op) w w1 := (Ext.of_below hb1).mono (fun b hb e => absurd e (by omega))
  have hp1 := h.ext (S := fun _ => False) ((Ext.of_below hb1).mono (fun b hb e => absurd e (by omega))) id (fun _ _ => id)
  replace hr := hr.below hb1 (Nat.le_refl _)
  have hB1 : B ≤ w1.heap.size := Nat.le_trans hB hb1.size
  have ho1 : OwnStep w1 op op := .refl _ _
  clear he he' h hb1
  have HX1 := Lib.hid hx1
  clear hx1
  by_cases hez : e = 0
  · subst hez
    have hpk := hok rfl
    rw [if_neg (by decide)] at HR
    obtain ⟨q, hq⟩ : ∃ q, countPut t max err 8 l.length = q := ⟨_, rfl⟩
    have hcz := countPut_size t max err 8 l.length
    have hsz := prPuts_size hpk max q
    rw [hq] at HR hcz
    have hl8 := hpk.len
    have HSZ := Lib.hid hsz
    have HPK := Lib.hid hpk
    clear hok hsz hpk
    go_wp2_with fail
    refine blob_PutCount B gp op t max err 8 l.length _ hp1 hB1 h0 h1 (by omega) (by decide) (by omega) ?_
    rw [hq]
    have hq0 : prPuts max q (l.take 0) = q := by rw [List.take_zero]; rfl
    intro w2 o2 hp2 ho2 hx2
    rw [← hq0] at hp2
    clear hq hq0 hp1 ho1
    go_wp2_with fail
    go_loopw [20] (PPutI w1 B gp op max q l) (fun i _ => l.length - (RowKit.intOf i).toNat)
    case atStart => exact ⟨0, o2, Nat.zero_le _, rfl, hp2, ho2, hx2⟩
    case round =>
      obtain ⟨j, o6, hj, rfl, hpen, hown, hext⟩ := hrel
      have hj0 : (0 : Int) ≤ (j : Int) := Int.natCast_nonneg _
      clear hp2 ho2 hx2
      by_cases hlt : j < l.length
      · have hj1 : (j : Int) < (l.length : Int) := by omega
        have hjd : decide ((j : Int) < (l.length : Int)) = true := decide_eq_true hj1
        have hrw := hr.ext hext hA
        obtain ⟨b, o, hA', hb, d0, d1⟩ := hrw.it j hlt
        obtain ⟨⟨k, m⟩, hkm⟩ : ∃ x, l.getD j (emp, emp) = x := ⟨_, rfl⟩
        obtain ⟨hkz, _, _, hmz⟩ := HPK.out.at_ j hlt
        have hts := HSZ.out j hj
        rw [hkm] at d0 d1 hkz hmz
        dsimp only at d0 d1 hkz hmz
        have hsn : prPuts max q (l.take (j + 1)) = blobPut (blobPut (prPuts max q (l.take j)).1 max (prPuts max q (l.take j)).2 32 k).1 max (blobPut (prPuts max q (l.take j)).1 max (prPuts max q (l.take j)).2 32 k).2 32768 m := by
          rw [take_snoc l j (emp, emp) hlt, prPuts_snoc, hkm]
        generalize prPuts max q (l.take j) = r6 at *
        obtain ⟨t6, e6⟩ := r6
        dsimp only at hts hpen hsn
        obtain ⟨r7, hr7⟩ : ∃ r, blobPut t6 max e6 32 k = r := ⟨_, rfl⟩
        have hts7 := blobPut_size t6 max e6 32 k
        rw [hr7] at hsn hts7
        obtain ⟨t7, e7⟩ := r7
        dsimp only at hsn hts7
        have HR7 := Lib.hid hr7
        have HSN := Lib.hid hsn
        subst hA'
        clear hr7 hsn hkm hrw
        have hba := Blk.new wr 34 #[.string k, .string m]
        have hpa := hpen.alloc (.cells #[.string k, .string m] 34)
        have hxa := hext.alloc (.cells #[.string k, .string m] 34)
        have hBa : B ≤ (wr.alloc (.cells #[.string k, .string m] 34)).heap.size := Nat.le_trans hB1 hxa.size
        have hnx : ¬ PenS gp o6 wr.heap.size := hpen.new
        have hwz := hext.size
        go_upto_region 7 with fail
        clear hpen hext d0 d1
        have howna : OwnStep w1 op o6 := hown
        generalize hwa : wr.alloc (.cells #[.string k, .string m] 34) = wa at *
        generalize hbx : wr.heap.size = bx at *
        clear hwa hbx
        have q0 := hba.cell 0
        dsimp at q0
        go_wp2_with fail
        refine blob_Put B gp o6 t6 max e6 32 _ _ k _ (hpa.alloc _) (Nat.le_trans hBa (by simp)) h0 h1 (StrsAt.new1 _ _ _) (fun ad e => by injection e with e; subst e; exact hpa.new) (by omega) (by decide) ?_
        rw [HR7.out]
        dsimp only
        intro w7 o7 hp7 ho7 hx7
        have hx67 : Ext (PenS gp o6) wa w7 := Ext.trans (S := PenS gp o6) ((Ext.refl _ _).alloc _) hx7 (fun _ _ e => e)
        have hb7 := hba.ext hx67 hnx
        obtain ⟨ho7, hx7⟩ := PenS.goA howna hxa ho7 hx7
        have hB7 := Nat.le_trans hB1 hx7.size
        clear hba hx67 hpa hxa howna q0
        have q1 := hb7.cell 1
        dsimp at q1
        go_wp2_with fail
        refine blob_Put B gp o7 t7 max e7 32768 _ _ m _ (hp7.alloc _) (Nat.le_trans hB7 (by simp)) h0 h1 (StrsAt.new1 _ _ _) (fun ad e => by injection e with e; subst e; exact hp7.new) (by omega) (by decide) ?_
        intro w8 o8 hp8 ho8 hx8
        obtain ⟨ho8, hx8⟩ := PenS.goA ho7 hx7 ho8 hx8
        rw [← HSN.out] at hp8
        go_wp2
        go_roundw
        case rel => exact ⟨j + 1, o8, by omega, by go_num, hp8, ho8, hx8⟩
        case measure => simp [RowKit.intOf]; omega
      · have hje : j = l.length := by omega
        have hj1 : ¬ (j : Int) < (l.length : Int) := by omega
        have hjd : decide ((j : Int) < (l.length : Int)) = false := decide_eq_false hj1
        rw [hje, List.take_length] at hpen
        clear hje
        go_wp2_with fail
        refine bodyPost_ret (results_none rfl _ _ _) rfl ?_
        obtain ⟨ho, hx⟩ := PenS.go (.refl w op) HX1.out hown hext
        exact HR.out _ _ hpen ho hx
  · have heb : (e != 0) = true := by simpa using hez
    rw [if_pos hez] at HR
    dsimp only at HR
    clear hok
    go_wp2_with fail
    refine pen_Fail B gp op t max err e _ hp1 ?_
    intro w2 hp2 hx2
    go_wp2
    refine bodyPost_ret (results_none rfl _ _ _) rfl ?_
    exact HR.out _ _ hp2 (.refl _ _) (HX1.out.trans hx2 (fun _ _ h => h))

set_option maxHeartbeats 2000000 in
set_option maxRecDepth 100000 in
theorem ref14_Put (gp : Nat) (t : ByteArray) (max err : Int) (l : List It) (A : Option Addr) (c : Nat) (w : World) (h : RPen w gp t max err)
    (h0 : 0 ≤ max) (h1 : max ≤ 9223372036854775807) (hz : t.size ≤ 1000000) (hr : Row w A (flat itC l)) (hA : ∀ ad, A = some ad → flat itC l ≠ [] → ad.block ≠ gp) {R : Ending → World → Prop}
    (hR : ∀ w', RPen w' gp (pairsPut t max err l).1 max (pairsPut t max err l).2 → Ext (· = gp) w w' → R (.returned (.tuple #[])) w') :
    Calls Try.prog 30 #[.pointer (some ⟨gp, 0, none⟩), .slice A l.length c] w R := by
  have HR := Lib.hid hR
  clear hR
  unfold pairsPut at HR
  obtain ⟨e, he⟩ : ∃ e, checkP l = e := ⟨_, rfl⟩
  have hok : e = 0 → PrOk l := fun c => checkP_ok (he.trans c)
  rw [he] at HR
  go_enter Try.func30, Try.ntmps30
  go_wp2_with fail
  refine ref14_Check l A c w hr ?_
  have he' : checkL 8 (prF l) l.length = e := he
  rw [he']
  intro w1 hb1
  have hx1 : Ext (· = gp) w w1 := (Ext.of_below hb1).mono (fun b hb e => absurd e (by omega))
  have hp1 : RPen w1 gp t max err := Blk.below h hb1 (Blk.lt h)
  replace hr := hr.below hb1 (Nat.le_refl _)
  clear he he' h hb1
  have HX1 := Lib.hid hx1
  clear hx1
  by_cases hez : e = 0
  · subst hez
    have hpk := hok rfl
    rw [if_neg (by decide)] at HR
    obtain ⟨q, hq⟩ : ∃ q, countPut t max err 8 l.length = q := ⟨_, rfl⟩
    have hcz := countPut_size t max err 8 l.length
    have hsz := prPuts_size hpk max q
    rw [hq] at HR hcz
    have hl8 := hpk.len
    have HSZ := Lib.hid hsz
    have HPK := Lib.hid hpk
    clear hok hsz hpk
    go_wp2_with fail
    refine ref06_PutCount gp t max err 8 l.length _ hp1 h0 h1 (by omega) (by decide) (by omega) ?_
    rw [hq]
    have hq0 : prPuts max q (l.take 0) = q := by rw [List.take_zero]; rfl
    intro w2 hp2 hx2
    rw [← hq0] at hp2
    clear hq hq0 hp1
    go_wp2_with fail
    go_loopw [5] (RPPutI w1 gp max q l) (fun i _ => l.length - (RowKit.intOf i).toNat)
    case atStart => exact ⟨0, Nat.zero_le _, rfl, hp2, hx2⟩
    case round =>
      obtain ⟨j, hj, rfl, hpen, hext⟩ := hrel
      have hj0 : (0 : Int) ≤ (j : Int) := Int.natCast_nonneg _
      clear hp2 hx2
      by_cases hlt : j < l.length
      · have hj1 : (j : Int) < (l.length : Int) := by omega
        have hjd : decide ((j : Int) < (l.length : Int)) = true := decide_eq_true hj1
        have hrw := hr.ext hext hA
        have hne := flat_ne itC_len (by decide) (l := l) (by omega)
        obtain ⟨b, o, hA', hb, d0, d1⟩ := hrw.it j hlt
        have hbg := hA _ hA' hne
        obtain ⟨⟨k, m⟩, hkm⟩ : ∃ x, l.getD j (emp, emp) = x := ⟨_, rfl⟩
        obtain ⟨hkz, _, _, hmz⟩ := HPK.out.at_ j hlt
        have hts := HSZ.out j hj
        rw [hkm] at d0 d1 hkz hmz
        dsimp only at d0 d1 hkz hmz hbg
        have hsn : prPuts max q (l.take (j + 1)) = blobPut (blobPut (prPuts max q (l.take j)).1 max (prPuts max q (l.take j)).2 32 k).1 max (blobPut (prPuts max q (l.take j)).1 max (prPuts max q (l.take j)).2 32 k).2 32768 m := by
          rw [take_snoc l j (emp, emp) hlt, prPuts_snoc, hkm]
        generalize prPuts max q (l.take j) = r6 at *
        obtain ⟨t6, e6⟩ := r6
        dsimp only at hts hpen hsn
        obtain ⟨r7, hr7⟩ : ∃ r, blobPut t6 max e6 32 k = r := ⟨_, rfl⟩
        have hts7 := blobPut_size t6 max e6 32 k
        rw [hr7] at hsn hts7
        obtain ⟨t7, e7⟩ := r7
        dsimp only at hsn hts7
        have HR7 := Lib.hid hr7
        have HSN := Lib.hid hsn
        have HD1 := Lib.hid d1
        subst hA'
        clear hr7 hsn hkm hrw d1 hne
        go_wp2_with fail
        refine ref06_Put gp t6 max e6 32 k wr hpen h0 h1 (by omega) (by decide) ?_
        rw [HR7.out]
        dsimp only
        intro w7 hp7 hx7
        have d1 : w7.cell? ⟨b, o + j * 2 + 1, none⟩ = some (.string m) := (World.cell?_of_block (a := ⟨b, o + j * 2 + 1, none⟩) (hx7.block b hb hbg)).trans HD1.out
        replace hext := hext.trans hx7 (fun _ _ h => h)
        clear hpen hx7 d0
        go_wp2_with fail
        refine ref06_Put gp t7 max e7 32768 m w7 hp7 h0 h1 (by omega) (by decide) ?_
        intro w8 hp8 hx8
        rw [← HSN.out] at hp8
        replace hext := hext.trans hx8 (fun _ _ h => h)
        go_wp2
        go_roundw
        case rel => exact ⟨j + 1, by omega, by go_num, hp8, hext⟩
        case measure => simp [RowKit.intOf]; omega
      · have hje : j = l.length := by omega
        have hj1 : ¬ (j : Int) < (l.length : Int) := by omega
        have hjd : decide ((j : Int) < (l.length : Int)) = false := decide_eq_false hj1
        rw [hje, List.take_length] at hpen
        clear hje
        go_wp2_with fail
        refine bodyPost_ret (results_none rfl _ _ _) rfl ?_
        exact HR.out _ hpen (HX1.out.trans hext (fun _ _ h => h))
  · have heb : (e != 0) = true := by simpa using hez
    rw [if_pos hez] at HR
    dsimp only at HR
    clear hok
    go_wp2_with fail
    refine ref02_Fail gp t max err e _ hp1 ?_
    intro w2 hp2 hx2
    go_wp2
    refine bodyPost_ret (results_none rfl _ _ _) rfl ?_
    exact HR.out _ hp2 (HX1.out.trans hx2 (fun _ _ h => h))
end
end Go.Proofs.Ytgjiedjfplbipaa
