/- page.slots. -/
import Derived.Test.YtokjkpoegcnijaaPageTake
namespace Go.Proofs.Ytokjkpoegcnijaa
open Go.RowKit Go.Lib
section
/-- The last byte of some slots. -/
def lastS (l : List Sl) : Option Int := if l.length = 0 then none else some (l.getD (l.length - 1) (0, emp)).1
theorem lastS_snoc (l : List Sl) (x : Sl) : lastS (l ++ [x]) = some x.1 := by unfold lastS; rw [if_neg (by simp)]; simp
/-- Slots are read: what is told so far, and what is left to read. -/
def SlRel (W : World) (s : ByteArray) (g n : Nat) (r : List Sl × Nat × Int) (out : Value) (w : World) : Prop :=
  ∃ (l : List Sl) (A : Option Addr) (c a : Nat) (e : Int), out = .slice A l.length c ∧ Own w W.heap.size 29 2 slC (.slice A l.length c) l ∧ l.length ≤ n ∧ a ≤ s.size ∧ Cur w g s a e ∧ Ext (· = g) W w ∧
    ((e = 0 ∧ ∃ q, slL s (n - l.length) a (lastS l) = q ∧ r = (l ++ q.1, q.2)) ∨ (e ≠ 0 ∧ r.2 = (a, e)))

theorem SlRel.step {s : ByteArray} {n a2 a' : Nat} {e' : Int} {l : List Sl} {q r : List Sl × Nat × Int} {x : Sl} (hq : slL s (n - l.length) a2 (lastS l) = q) (hr : r = (l ++ q.1, q.2)) (hlt : l.length < n)
    (hstep : slStep s a2 (lastS l) = (x, a', e')) :
    (e' = 0 ∧ ∃ q, slL s (n - (l ++ [x]).length) a' (lastS (l ++ [x])) = q ∧ r = ((l ++ [x]) ++ q.1, q.2)) ∨ (e' ≠ 0 ∧ r.2 = (a', e')) := by
  obtain ⟨m, hm⟩ : ∃ m, n - l.length = m + 1 := ⟨n - l.length - 1, by omega⟩
  have hm2 : n - (l ++ [x]).length = m := by rw [List.length_append, List.length_singleton]; omega
  rw [hm, slL, hstep] at hq
  dsimp only at hq
  rw [hm2, lastS_snoc]
  by_cases he : e' = 0
  · rw [if_neg (by omega)] at hq
    exact .inl ⟨he, _, rfl, by rw [hr, ← hq]; simp⟩
  · rw [if_pos he] at hq
    exact .inr ⟨he, by rw [hr, ← hq]⟩
theorem slStep_eq {s m : ByteArray} {k : Int} {last : Option Int} {a a3 a' : Nat} {e3 e4 e' : Int} (h1 : byteR s a 0 = (k, a3, e3)) (h2 : e4 = if e3 ≠ 0 then e3 else if overS last k = true then 6 else 0)
    (h3 : bytesR s a3 e4 32 = (m, a', e')) : slStep s a last = ((k, m), a', e') := by
  unfold slStep
  rw [h1]; dsimp only
  rw [← h2, h3]
theorem Own.curS {w w' : World} {B g at_ : Nat} {s : ByteArray} {e : Int} {v : Value} {l : List Sl} (h : Own w B 29 2 slC v l) (hc : Cur w g s at_ e) (hx : Ext (· = g) w w') : Own w' B 29 2 slC v l :=
  h.ext hx (fun b hb e => by
    obtain ⟨cs, hcs⟩ := h.blkT hb
    subst e
    exact hcs.ne hc (by decide) rfl)




set_option maxHeartbeats 4000000 in
set_option maxRecDepth 100000 in
theorem page_slots (g : Nat) (s : ByteArray) (a : Nat) (e : Int) (w : World) (h : Cur w g s a e) (ha : a ≤ s.size) (hs : s.size ≤ 140737488351232) {R : Ending → World → Prop}
    (hR : ∀ A c l w', Own w' w.heap.size 29 2 slC (.slice A l.length c) l → l.length ≤ 256 → ((slotsR s a e).2.2 = 0 → l = (slotsR s a e).1) → Cur w' g s (slotsR s a e).2.1 (slotsR s a e).2.2 → (slotsR s a e).2.1 ≤ s.size → Ext (· = g) w w' → R (.returned (.slice A l.length c)) w') :
    Calls Try.prog 62 #[.pointer (some ⟨g, 0, none⟩)] w R := by
  obtain ⟨i0, hi0, hz0, hz1, hz2⟩ := info_parts info_sl
  have HR := Lib.hid hR
  clear hR
  go_enter Try.func62, Try.ntmps62
  go_wp2_with fail
  refine blob_Count g s a e 256 w h ha (by omega) (by decide) ?_
  have hcn := countR_le s a e 256
  have hca := countR_at (e := e) 256 ha
  obtain ⟨r, hr⟩ : ∃ r, slotsR s a e = r := ⟨_, rfl⟩
  rw [hr] at HR
  unfold slotsR at hr
  generalize countR s a e 256 = cr at *
  obtain ⟨n, a1, e1⟩ := cr
  dsimp only at hcn hca hr ⊢
  intro w1 hc1 hx1
  have hn0 : (0 : Int) ≤ (n : Int) := Int.natCast_nonneg _
  clear h
  by_cases hnz : n = 0
  · have hnb : ((n : Int) == 0) = true := by simpa using hnz
    have hst : ¬ (if e1 = 0 then 7 else e1) = (0 : Int) ∧ r.2 = (a1, if e1 = 0 then 7 else e1) := by
      by_cases he : e1 = 0
      · subst he; rw [if_neg (by decide), if_pos hnz] at hr; rw [← hr]; exact ⟨by decide, rfl⟩
      · rw [if_pos he] at hr; rw [if_neg he, ← hr]; exact ⟨he, rfl⟩
    have HST := Lib.hid hst
    clear hr hst hnz
    go_wp2_with fail
    refine cursor_Fail g s a1 e1 7 w1 hc1 ?_
    intro w2 hc2 hx2
    have hx2 := hx1.trans hx2 (fun _ _ h => h)
    generalize (if e1 = 0 then 7 else e1) = e2 at *
    obtain ⟨he2, hr2⟩ := HST.out
    rw [hr2] at HR
    have hez : (e2 == 0) = false := by simpa using he2
    have HE2 := Lib.hid he2
    clear he2 hr2 HST hc1 hx1
    go_wp2_with fail
    go_loopw [4] (fun o w' => o = .slice none 0 0 ∧ Cur w' g s a1 e2 ∧ Ext (· = g) w w') (fun _ _ => 0)
    case atStart => exact ⟨rfl, hc2, hx2⟩
    case round =>
      obtain ⟨rfl, hc, hx⟩ := hrel
      clear hc2 hx2
      go_wp2_with fail
      refine (cursor_Err g s a1 e2 _ hc).mono ?_
      rintro x w' ⟨rfl, rfl⟩
      go_wp2_with fail
      exact HR.out none 0 [] _ (Own.nil _ _ _ _) (by decide) (fun h => absurd h HE2.out) hc hca hx
  have hnb : ((n : Int) == 0) = false := by simpa using hnz
  have hst : (e1 = 0 ∧ ∃ q, slL s (n - 0) a1 (lastS []) = q ∧ r = ([] ++ q.1, q.2)) ∨ (e1 ≠ 0 ∧ r.2 = (a1, e1)) := by
    by_cases he : e1 = 0
    · subst he
      rw [if_neg (by decide), if_neg hnz] at hr
      exact .inl ⟨rfl, _, rfl, by rw [← hr]; rfl⟩
    · rw [if_pos he] at hr
      exact .inr ⟨he, by rw [← hr]⟩
  clear hr
  go_wp2_with fail
  clear hnb
  go_loopw [4] (SlRel w s g n r) (fun o w' => n - sliceLen o)
  case atStart => exact ⟨[], none, 0, a1, e1, rfl, Own.nil _ _ _ _, Nat.zero_le _, hca, hc1, hx1, hst⟩
  case round =>
    obtain ⟨l, A, c, a2, e2, rfl, hown, hl, ha2, hcur, hext, hrst⟩ := hrel
    clear hc1 hx1 hst hca
    go_wp2_with fail
    refine (cursor_Err g s a2 e2 _ hcur).mono ?_
    rintro x w' ⟨rfl, rfl⟩
    by_cases he : e2 = 0
    · obtain ⟨q, hq, hrq⟩ : ∃ q, slL s (n - l.length) a2 (lastS l) = q ∧ r = (l ++ q.1, q.2) := by
        rcases hrst with ⟨_, h⟩ | ⟨h, _⟩
        · exact h
        · exact absurd he h
      clear hrst
      subst he
      have hl0 : (0 : Int) ≤ (l.length : Int) := Int.natCast_nonneg _
      by_cases hlt : l.length < n
      · have hlt1 : (l.length : Int) < (n : Int) := by omega
        have hlt2 : decide ((l.length : Int) < (n : Int)) = true := decide_eq_true hlt1
        obtain ⟨r3, hr3⟩ : ∃ r, byteR s a2 0 = r := ⟨_, rfl⟩
        obtain ⟨k, a3, e3⟩ := r3
        have ha3 : a3 ≤ s.size := by have := byteR_at (err := 0) ha2; rw [hr3] at this; exact this
        have HB3 := Lib.hid hr3
        have HQ := Lib.hid hq
        have HRQ := Lib.hid hrq
        clear hr3 hq hrq
        go_wp2_with fail
        refine cursor_Byte g s a2 0 _ hcur ha2 (by omega) ?_
        rw [HB3.out]
        dsimp only
        intro w3 hc3 hx3
        have hext3 := hext.trans hx3 (fun _ _ h => h)
        have hown3 := hown.curS hcur hx3
        have hba := Blk.new w3 29 #[.int .u8 k, .string ⟨#[]⟩]
        have hca : Cur (w3.alloc (.cells #[.int .u8 k, .string ⟨#[]⟩] 29)) g s a3 e3 := Blk.alloc hc3 _
        have hoa := hown3.alloc (.cells #[.int .u8 k, .string ⟨#[]⟩] 29)
        have hxa := hext3.alloc (.cells #[.int .u8 k, .string ⟨#[]⟩] 29)
        have hnx : (Value.slice A l.length c).ownBlock ≠ some w3.heap.size := fun e => absurd (hown3.lt _ e).2 (Nat.lt_irrefl _)
        have hbw : w.heap.size ≤ w3.heap.size := hext3.size
        clear hext hown hcur hx3
        go_upto_region 7 with fail
        clear hc3 hown3 hext3
        generalize hwa : w3.alloc (.cells #[.int .u8 k, .string ⟨#[]⟩] 29) = wb at *
        generalize hbx : w3.heap.size = bx at *
        clear hwa hbx
        have q0 := hba.cell 0
        dsimp at q0
        by_cases hlz : l.length = 0
        · have hz1 : ¬ (0 : Int) < (l.length : Int) := by omega
          have hz2 : decide ((0 : Int) < (l.length : Int)) = false := decide_eq_false hz1
          have hz3 : ¬ 0 < l.length := by omega
          have hz4 : decide (0 < l.length) = false := decide_eq_false hz3
          have he4 : e3 = if e3 ≠ 0 then e3 else if overS (lastS l) k = true then 6 else 0 := by
            unfold lastS; rw [if_pos hlz]; by_cases c : e3 = 0 <;> simp [c, overS]
          have HE := Lib.hid he4
          clear he4 hlz
          go_wp2_with fail
          go_quiet (fail)
          clear hz1 hz2 hz3 hz4 q0
          have hba5 : Blk (wb.drewN nq) bx _ _ := hba
          have hc5 : Cur (wb.drewN nq) g s a3 e3 := hca
          have hoa5 : Own (wb.drewN nq) _ _ _ _ _ _ := hoa
          have hxa5 : Ext (· = g) w (wb.drewN nq) := hxa.drewN nq
          clear hba hca hoa hxa
          have hE4 : e3 = if e3 ≠ 0 then e3 else if overS (lastS l) k = true then 6 else 0 := HE.out
          generalize e3 = e4 at *
          obtain ⟨r7, hr7⟩ : ∃ r, bytesR s a3 e4 32 = r := ⟨_, rfl⟩
          obtain ⟨m, a7, e7⟩ := r7
          have ha7 : a7 ≤ s.size := by have := bytesR_at (err := e4) (n := 32) ha3; rw [hr7] at this; exact this
          have hstp := SlRel.step HQ.out HRQ.out hlt (slStep_eq HB3.out hE4 hr7)
          have HSTP := Lib.hid hstp
          have HR7 := Lib.hid hr7
          clear hstp hr7 hE4 HE
          go_wp2_with fail
          refine cursor_Bytes g s a3 e4 32 _ hc5 ha3 (by omega) ?_
          rw [HR7.out]
          dsimp only
          intro w7 hc7 hx7
          have hba7 := hba5.ext hx7 (fun e => (hba5.ne hc5 (by decide)) e)
          have hoa7 := hoa5.curS hc5 hx7
          have hxa7 := hxa5.trans hx7 (fun _ _ h => h)
          have hgx : bx ≠ g := hba7.ne hc7 (by decide)
          clear hba5 hoa5 hxa5 hc5 hx7
          have q1 := hba7.cell 1
          have f1 := hba7.frozen 1
          dsimp at q1
          go_upto_region 10 with fail
          have hba8 : Blk (w7.setCell ⟨bx, 1, none⟩ (.string m)) bx 29 #[.int .u8 k, .string m] := hba7.set 1 _
          have hx78 : Ext (· = bx) w7 (w7.setCell ⟨bx, 1, none⟩ (.string m)) := Ext.self w7 bx 1 _
          have hoa8 := hoa7.ext hx78 (fun b hb e => hnx (by rw [hb, e]))
          have hc8 : Cur (w7.setCell ⟨bx, 1, none⟩ (.string m)) g s a7 e7 := hc7.ext hx78 (fun e => hgx e.symm)
          have hxa8 : Ext (· = g) w (w7.setCell ⟨bx, 1, none⟩ (.string m)) := hxa7.setCell (p := ⟨bx, 1, none⟩) (fun h => absurd h (Nat.not_lt.2 hbw)) _
          clear hba7 hoa7 hc7 hxa7 q1 f1 hx78
          generalize w7.setCell ⟨bx, 1, none⟩ (.string m) = w8 at *
          have q0 := hba8.cell 0
          have q1 := hba8.cell 1
          dsimp at q0 q1
          have hW8 : w.heap.size ≤ w8.heap.size := hxa8.size
          have hlen : (l ++ [(k, m)]).length = l.length + 1 := by simp
          have HLEN := Lib.hid hlen
          clear hlen
          go_wp2_with (first
            | (at_builtin; refine wpList_append_one rfl _ _ _ (by rfl) w.heap.size 29 i0 _ 2 24 Try.underlying24 hi0 hz0 hz1 hz2 rfl (by decide) slC (.slice A l.length c) l (by rfl) (hoa8.alloc _) (k, m) ⟨w8.heap.size, 0, none⟩ 1 (by rfl) rfl ((Blk.new _ _ _).news rfl) (slC_one _) (by unfold maxLen; omega) (by omega) (Nat.le_trans hW8 (by simp)) ?_
               intro g9 c9 w9 hown9 hx9 hst9
               have hc9 := (hc8.alloc (.cells #[.int .u8 k, .string m] 29)).ext hx9 (Own.ne (hoa8.alloc (.cells #[.int .u8 k, .string m] 29)) (Blk.alloc hc8 _) (by decide))
               have hxa9 : Ext (· = g) w w9 := (hxa8.alloc (.cells #[.int .u8 k, .string m] 29)).trans hx9 (fun b hb e => absurd ((hoa8.alloc (.cells #[.int .u8 k, .string m] 29)).lt b e).1 (Nat.not_le.2 hb))))
          go_roundw
          case rel => exact ⟨l ++ [(k, m)], some ⟨g9, 0, none⟩, c9, a7, e7, by rw [HLEN.out], by rw [HLEN.out]; exact hown9, by rw [HLEN.out]; omega, ha7, hc9, hxa9, HSTP.out⟩
          case measure => simp [sliceLen]; omega
        · have hz1 : (0 : Int) < (l.length : Int) := by omega
          have hz2 : decide ((0 : Int) < (l.length : Int)) = true := decide_eq_true hz1
          have hz3 : 0 < l.length := by omega
          have hz4 : decide (0 < l.length) = true := decide_eq_true hz3
          have hjw : wrap64 ((l.length : Int) - 1) = ((l.length - 1 : Nat) : Int) := by
            have e : (l.length : Int) - 1 = ((l.length - 1 : Nat) : Int) := by omega
            rw [e]; unfold wrap64; omega
          have hjl : ((l.length - 1 : Nat) : Int) < (l.length : Int) := by omega
          have hjn : (0 : Int) ≤ ((l.length - 1 : Nat) : Int) := Int.natCast_nonneg _
          obtain ⟨b, o, hA, hb, d0, d1⟩ := (Row.of_own hoa).sl (l.length - 1) (by omega)
          have hkl : lastS l = some (l.getD (l.length - 1) (0, emp)).1 := by unfold lastS; rw [if_neg hlz]
          obtain ⟨k', hk'⟩ : ∃ k', (l.getD (l.length - 1) (0, emp)).1 = k' := ⟨_, rfl⟩
          rw [hk'] at d0 hkl
          clear hk'
          have HKL := Lib.hid hkl
          have HLZ := Lib.hid hlz
          clear hkl hlz
          subst hA
          by_cases hkk : k ≤ k'
          · have hkd : decide (k ≤ k') = true := decide_eq_true hkk
            have he4 : (if e3 = 0 then 6 else e3) = if e3 ≠ 0 then e3 else if overS (lastS l) k = true then 6 else 0 := by
              rw [HKL.out, show overS (some k') k = true from hkd]; by_cases c : e3 = 0 <;> simp [c]
            have HE := Lib.hid he4
            clear he4
            go_wp2_with fail
            go_quiet (fail)
            clear hz1 hz2 hz3 hz4 q0 hkk hkd hjw hjl hjn d0 d1
            have hba : Blk (wb.drewN nq) bx _ _ := hba
            have hca : Cur (wb.drewN nq) g s a3 e3 := hca
            have hoa : Own (wb.drewN nq) _ _ _ _ _ _ := hoa
            have hxa : Ext (· = g) w (wb.drewN nq) := hxa.drewN nq
            generalize wb.drewN nq = wb2 at *
            go_wp2_with fail
            refine cursor_Fail g s a3 e3 6 wb2 hca ?_
            intro w5 hc5 hx5
            have hba5 := hba.ext hx5 (fun e => (hba.ne hca (by decide)) e)
            have hoa5 := hoa.curS hca hx5
            have hxa5 := hxa.trans hx5 (fun _ _ h => h)
            clear hba hca hoa hxa hx5
            have hE4 : (if e3 = 0 then 6 else e3) = if e3 ≠ 0 then e3 else if overS (lastS l) k = true then 6 else 0 := HE.out
            generalize (if e3 = 0 then 6 else e3) = e4 at *
            obtain ⟨r7, hr7⟩ : ∃ r, bytesR s a3 e4 32 = r := ⟨_, rfl⟩
            obtain ⟨m, a7, e7⟩ := r7
            have ha7 : a7 ≤ s.size := by have := bytesR_at (err := e4) (n := 32) ha3; rw [hr7] at this; exact this
            have hstp := SlRel.step HQ.out HRQ.out hlt (slStep_eq HB3.out hE4 hr7)
            have HSTP := Lib.hid hstp
            have HR7 := Lib.hid hr7
            clear hstp hr7 hE4 HE
            go_wp2_with fail
            refine cursor_Bytes g s a3 e4 32 _ hc5 ha3 (by omega) ?_
            rw [HR7.out]
            dsimp only
            intro w7 hc7 hx7
            have hba7 := hba5.ext hx7 (fun e => (hba5.ne hc5 (by decide)) e)
            have hoa7 := hoa5.curS hc5 hx7
            have hxa7 := hxa5.trans hx7 (fun _ _ h => h)
            have hgx : bx ≠ g := hba7.ne hc7 (by decide)
            clear hba5 hoa5 hxa5 hc5 hx7
            have q1 := hba7.cell 1
            have f1 := hba7.frozen 1
            dsimp at q1
            go_upto_region 10 with fail
            have hba8 : Blk (w7.setCell ⟨bx, 1, none⟩ (.string m)) bx 29 #[.int .u8 k, .string m] := hba7.set 1 _
            have hx78 : Ext (· = bx) w7 (w7.setCell ⟨bx, 1, none⟩ (.string m)) := Ext.self w7 bx 1 _
            have hoa8 := hoa7.ext hx78 (fun b hb e => hnx (by rw [hb, e]))
            have hc8 : Cur (w7.setCell ⟨bx, 1, none⟩ (.string m)) g s a7 e7 := hc7.ext hx78 (fun e => hgx e.symm)
            have hxa8 : Ext (· = g) w (w7.setCell ⟨bx, 1, none⟩ (.string m)) := hxa7.setCell (p := ⟨bx, 1, none⟩) (fun h => absurd h (Nat.not_lt.2 hbw)) _
            clear hba7 hoa7 hc7 hxa7 q1 f1 hx78
            generalize w7.setCell ⟨bx, 1, none⟩ (.string m) = w8 at *
            have q0 := hba8.cell 0
            have q1 := hba8.cell 1
            dsimp at q0 q1
            have hW8 : w.heap.size ≤ w8.heap.size := hxa8.size
            have hlen : (l ++ [(k, m)]).length = l.length + 1 := by simp
            have HLEN := Lib.hid hlen
            clear hlen
            go_wp2_with (first
              | (at_builtin; refine wpList_append_one rfl _ _ _ (by rfl) w.heap.size 29 i0 _ 2 24 Try.underlying24 hi0 hz0 hz1 hz2 rfl (by decide) slC (.slice (some ⟨b, o, none⟩) l.length c) l (by rfl) (hoa8.alloc _) (k, m) ⟨w8.heap.size, 0, none⟩ 1 (by rfl) rfl ((Blk.new _ _ _).news rfl) (slC_one _) (by unfold maxLen; omega) (by omega) (Nat.le_trans hW8 (by simp)) ?_
                 intro g9 c9 w9 hown9 hx9 hst9
                 have hc9 := (hc8.alloc (.cells #[.int .u8 k, .string m] 29)).ext hx9 (Own.ne (hoa8.alloc (.cells #[.int .u8 k, .string m] 29)) (Blk.alloc hc8 _) (by decide))
                 have hxa9 : Ext (· = g) w w9 := (hxa8.alloc (.cells #[.int .u8 k, .string m] 29)).trans hx9 (fun b hb e => absurd ((hoa8.alloc (.cells #[.int .u8 k, .string m] 29)).lt b e).1 (Nat.not_le.2 hb))))
            go_roundw
            case rel => exact ⟨l ++ [(k, m)], some ⟨g9, 0, none⟩, c9, a7, e7, by rw [HLEN.out], by rw [HLEN.out]; exact hown9, by rw [HLEN.out]; omega, ha7, hc9, hxa9, HSTP.out⟩
            case measure => simp [sliceLen]; omega
          · have hkd : decide (k ≤ k') = false := decide_eq_false hkk
            have he4 : e3 = if e3 ≠ 0 then e3 else if overS (lastS l) k = true then 6 else 0 := by
              rw [HKL.out, show overS (some k') k = false from hkd]; by_cases c : e3 = 0 <;> simp [c]
            have HE := Lib.hid he4
            clear he4
            go_wp2_with fail
            go_quiet (fail)
            clear hz1 hz2 hz3 hz4 q0 hkk hkd hjw hjl hjn d0 d1
            have hba5 : Blk (wb.drewN nq) bx _ _ := hba
            have hc5 : Cur (wb.drewN nq) g s a3 e3 := hca
            have hoa5 : Own (wb.drewN nq) _ _ _ _ _ _ := hoa
            have hxa5 : Ext (· = g) w (wb.drewN nq) := hxa.drewN nq
            clear hba hca hoa hxa
            have hE4 : e3 = if e3 ≠ 0 then e3 else if overS (lastS l) k = true then 6 else 0 := HE.out
            generalize e3 = e4 at *
            obtain ⟨r7, hr7⟩ : ∃ r, bytesR s a3 e4 32 = r := ⟨_, rfl⟩
            obtain ⟨m, a7, e7⟩ := r7
            have ha7 : a7 ≤ s.size := by have := bytesR_at (err := e4) (n := 32) ha3; rw [hr7] at this; exact this
            have hstp := SlRel.step HQ.out HRQ.out hlt (slStep_eq HB3.out hE4 hr7)
            have HSTP := Lib.hid hstp
            have HR7 := Lib.hid hr7
            clear hstp hr7 hE4 HE
            go_wp2_with fail
            refine cursor_Bytes g s a3 e4 32 _ hc5 ha3 (by omega) ?_
            rw [HR7.out]
            dsimp only
            intro w7 hc7 hx7
            have hba7 := hba5.ext hx7 (fun e => (hba5.ne hc5 (by decide)) e)
            have hoa7 := hoa5.curS hc5 hx7
            have hxa7 := hxa5.trans hx7 (fun _ _ h => h)
            have hgx : bx ≠ g := hba7.ne hc7 (by decide)
            clear hba5 hoa5 hxa5 hc5 hx7
            have q1 := hba7.cell 1
            have f1 := hba7.frozen 1
            dsimp at q1
            go_upto_region 10 with fail
            have hba8 : Blk (w7.setCell ⟨bx, 1, none⟩ (.string m)) bx 29 #[.int .u8 k, .string m] := hba7.set 1 _
            have hx78 : Ext (· = bx) w7 (w7.setCell ⟨bx, 1, none⟩ (.string m)) := Ext.self w7 bx 1 _
            have hoa8 := hoa7.ext hx78 (fun b hb e => hnx (by rw [hb, e]))
            have hc8 : Cur (w7.setCell ⟨bx, 1, none⟩ (.string m)) g s a7 e7 := hc7.ext hx78 (fun e => hgx e.symm)
            have hxa8 : Ext (· = g) w (w7.setCell ⟨bx, 1, none⟩ (.string m)) := hxa7.setCell (p := ⟨bx, 1, none⟩) (fun h => absurd h (Nat.not_lt.2 hbw)) _
            clear hba7 hoa7 hc7 hxa7 q1 f1 hx78
            generalize w7.setCell ⟨bx, 1, none⟩ (.string m) = w8 at *
            have q0 := hba8.cell 0
            have q1 := hba8.cell 1
            dsimp at q0 q1
            have hW8 : w.heap.size ≤ w8.heap.size := hxa8.size
            have hlen : (l ++ [(k, m)]).length = l.length + 1 := by simp
            have HLEN := Lib.hid hlen
            clear hlen
            go_wp2_with (first
              | (at_builtin; refine wpList_append_one rfl _ _ _ (by rfl) w.heap.size 29 i0 _ 2 24 Try.underlying24 hi0 hz0 hz1 hz2 rfl (by decide) slC (.slice (some ⟨b, o, none⟩) l.length c) l (by rfl) (hoa8.alloc _) (k, m) ⟨w8.heap.size, 0, none⟩ 1 (by rfl) rfl ((Blk.new _ _ _).news rfl) (slC_one _) (by unfold maxLen; omega) (by omega) (Nat.le_trans hW8 (by simp)) ?_
                 intro g9 c9 w9 hown9 hx9 hst9
                 have hc9 := (hc8.alloc (.cells #[.int .u8 k, .string m] 29)).ext hx9 (Own.ne (hoa8.alloc (.cells #[.int .u8 k, .string m] 29)) (Blk.alloc hc8 _) (by decide))
                 have hxa9 : Ext (· = g) w w9 := (hxa8.alloc (.cells #[.int .u8 k, .string m] 29)).trans hx9 (fun b hb e => absurd ((hoa8.alloc (.cells #[.int .u8 k, .string m] 29)).lt b e).1 (Nat.not_le.2 hb))))
            go_roundw
            case rel => exact ⟨l ++ [(k, m)], some ⟨g9, 0, none⟩, c9, a7, e7, by rw [HLEN.out], by rw [HLEN.out]; exact hown9, by rw [HLEN.out]; omega, ha7, hc9, hxa9, HSTP.out⟩
            case measure => simp [sliceLen]; omega
      · have hlt1 : ¬ (l.length : Int) < (n : Int) := by omega
        have hlt2 : decide ((l.length : Int) < (n : Int)) = false := decide_eq_false hlt1
        rw [show n - l.length = 0 by omega, slL] at hq
        subst hq
        rw [hrq] at HR
        clear hrq
        go_wp2_with fail
        exact HR.out A c l _ hown (by omega) (fun _ => by simp) hcur ha2 hext
    · have hez : (e2 == 0) = false := by simpa using he
      have hr2 : r.2 = (a2, e2) := by
        rcases hrst with ⟨h, _⟩ | ⟨_, h⟩
        · exact absurd h he
        · exact h
      rw [hr2] at HR
      clear hrst hr2
      go_wp2_with fail
      exact HR.out A c l _ hown (by omega) (fun h => absurd h he) hcur ha2 hext
end
end Go.Proofs.Ytokjkpoegcnijaa
