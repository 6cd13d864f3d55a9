/- spenceref14.Take. -/
import Derived.Test.YtgjiedjfplbipaaPairTake
import Derived.Test.YtgjiedjfplbipaaRef20
import Derived.Test.YtgjiedjfplbipaaRef20Check
import Derived.Test.YtgjiedjfplbipaaFixed2
namespace Go.Proofs.Ytgjiedjfplbipaa
open Go.RowKit Go.Lib
section
theorem Own.apartP {α : Type} {f : α → List Value} {k : Nat} {w w' : World} {B g : Nat} {e t : TypeId} {v : Value} {l : List α} {cs : Array Value} (h : Own w B e k f v l) (hc : Blk w g t cs) (ht : e ≠ t) (hx : Ext (· = g) w w') : Own w' B e k f v l :=
  h.ext hx (fun b hb e => by
    obtain ⟨cs, hcs⟩ := h.blkT hb
    subst e
    exact hcs.ne hc ht rfl)
theorem countR_z {s : ByteArray} {a : Nat} {e : Int} {m : Nat} (h : (countR s a e m).2.2 ≠ 0) : (countR s a e m).1 = 0 := by
  unfold countR at h ⊢
  split
  · rfl
  · next c =>
    rw [if_neg c] at h
    split
    · rfl
    · next d => rw [if_neg d] at h; exact absurd rfl h
theorem blobR_sz (s : ByteArray) (a : Nat) (e : Int) (m : Nat) : (blobR s a e m).1.size ≤ m := by
  have h1 := countR_le s a e m
  unfold blobR
  rcases bytesR_size s (countR s a e m).2.1 (countR s a e m).2.2 (countR s a e m).1 with h | h <;> omega
def RPrRel (W : World) (s : ByteArray) (g n : Nat) (r : List It × Nat × Int) (out i : Value) (w : World) : Prop :=
  ∃ (l : List It) (A : Option Addr) (c a : Nat) (e : Int), i = .int .i64 (l.length : Int) ∧ out = .slice A l.length c ∧ Own w W.heap.size 34 2 itC (.slice A l.length c) l ∧ l.length ≤ n ∧ a ≤ s.size ∧ RCur w g s a e ∧ Ext (· = g) W w ∧ (keyL l).size ≤ 32 ∧
    ((e = 0 ∧ ∃ q, prL s (n - l.length) a (keyL l) (decide (l.length = 0)) = q ∧ r = (l ++ q.1, q.2)) ∨ (e ≠ 0 ∧ n = 0 ∧ r = ([], a, e)))


set_option maxHeartbeats 4000000 in
set_option maxRecDepth 100000 in
theorem ref14_Take (g : Nat) (s : ByteArray) (a : Nat) (e : Int) (w : World) (h : RCur w g s a e) (ha : a ≤ s.size) (hs : s.size ≤ 140737488351232) {R : Ending → World → Prop}
    (hR : ∀ A c w', Row w' A (flat itC (pairsT s a e).1) → (pairsT s a e).1.length ≤ 8 → (∀ ad, A = some ad → w.heap.size ≤ ad.block) → RCur w' g s (pairsT s a e).2.1 (pairsT s a e).2.2 → (pairsT s a e).2.1 ≤ s.size → Ext (· = g) w w' → R (.returned (.slice A (pairsT s a e).1.length c)) w') :
    Calls Try.prog 23 #[.pointer (some ⟨g, 0, none⟩)] w R := by
  obtain ⟨i0, hi0, hI0, hI1, hI2⟩ := info_parts info_pr
  have HR := Lib.hid hR
  clear hR
  go_enter Try.func23, Try.ntmps23
  go_wp2_with fail
  refine ref06_Count g s a e 8 w h ha hs (by decide) ?_
  have hcn := countR_le s a e 8
  have hca := countR_at (s := s) (e := e) 8 ha
  have hcz := @countR_z s a e 8
  unfold pairsT at HR
  obtain ⟨r, hr⟩ : ∃ r, pairsR s a e = r := ⟨_, rfl⟩
  rw [hr] at HR
  dsimp only at HR
  unfold pairsR at hr
  generalize countR s a e 8 = cr at *
  obtain ⟨n, a1, e1⟩ := cr
  dsimp only at hcn hca hr hcz ⊢
  intro w1 hc1 hx1
  have hn0 : (0 : Int) ≤ (n : Int) := Int.natCast_nonneg _
  have hst : (e1 = 0 ∧ ∃ q, prL s (n - 0) a1 (keyL []) (decide (0 = 0)) = q ∧ r = ([] ++ q.1, q.2)) ∨ (e1 ≠ 0 ∧ n = 0 ∧ r = ([], a1, e1)) := by
    by_cases he : e1 = 0
    · subst he
      rw [if_neg (by decide)] at hr
      exact .inl ⟨rfl, _, rfl, by rw [← hr]; rfl⟩
    · rw [if_pos he] at hr
      exact .inr ⟨he, hcz he, hr.symm⟩
  have HST := Lib.hid hst
  clear hr h hst hcz
  go_wp2_with fail
  go_loopw [4, 5] (RPrRel w s g n r) (fun _ i _ => n - (RowKit.intOf i).toNat)
  case atStart => exact ⟨[], none, 0, a1, e1, rfl, rfl, Own.nil _ _ _ _, Nat.zero_le _, hca, hc1, hx1, by decide, HST.out⟩
  case round =>
    clear hc1 hx1 HST hca
    obtain ⟨l, A, c, a2, e2, rfl, rfl, hown, hl, ha2, hcur, hext, hkl32, hrst⟩ := hrel
    have hl0 : (0 : Int) ≤ (l.length : Int) := Int.natCast_nonneg _
    by_cases hlt : l.length < n
    · obtain ⟨he2, q, hq, hrq⟩ : e2 = 0 ∧ ∃ q, prL s (n - l.length) a2 (keyL l) (decide (l.length = 0)) = q ∧ r = (l ++ q.1, q.2) := by
        rcases hrst with h | ⟨_, h, _⟩
        · exact h
        · omega
      subst he2
      clear hrst
      have hlt1 : (l.length : Int) < (n : Int) := by omega
      have hlt2 : decide ((l.length : Int) < (n : Int)) = true := decide_eq_true hlt1
      obtain ⟨r3, hr3⟩ : ∃ r, blobR s a2 0 32 = r := ⟨_, rfl⟩
      have hk32 := blobR_sz s a2 0 32
      rw [hr3] at hk32
      obtain ⟨k, a3, e3⟩ := r3
      dsimp only at hk32
      have ha3 : a3 ≤ s.size := by have := blobR_at (s := s) (e := 0) 32 ha2; rw [hr3] at this; exact this
      have HB3 := Lib.hid hr3
      have HQ := Lib.hid hq
      have HRQ := Lib.hid hrq
      clear hr3 hq hrq
      go_wp2_with fail
      refine ref06_Take g s a2 0 32 _ hcur ha2 hs (by decide) ?_
      rw [HB3.out]
      dsimp only
      intro w3 hc5 hx3
      have hxa5 := hext.trans hx3 (fun _ _ h => h)
      have hoa5 := hown.apartP hcur (by decide) hx3
      clear hext hown hcur hx3
      obtain ⟨c0, c1, c2, _, f2⟩ := RCur.cells hc5
      by_cases he3 : e3 = 0
      rotate_left
      · have hez : (e3 == 0) = false := by simpa using he3
        have he4 : e3 = if e3 ≠ 0 then e3 else if k.size = 0 then 14 else if decide (l.length = 0) = false ∧ leB k (keyL l) = true then 6 else 0 := by rw [if_pos he3]
        have HE := Lib.hid he4
        clear he4
        have hE4 : e3 = if e3 ≠ 0 then e3 else if k.size = 0 then 14 else if decide (l.length = 0) = false ∧ leB k (keyL l) = true then 6 else 0 := HE.out
        obtain ⟨r7, hr7⟩ : ∃ r, blobR s a3 e3 32768 = r := ⟨_, rfl⟩
        obtain ⟨m, a7, e7⟩ := r7
        have ha7 : a7 ≤ s.size := by have := blobR_at (s := s) (e := e3) 32768 ha3; rw [hr7] at this; exact this
        have hstp := PrRel.step HQ.out HRQ.out hlt (prStep_eq HB3.out hE4 hr7)
        have HSTP := Lib.hid hstp
        have HR7 := Lib.hid hr7
        clear hstp hr7 hE4 HE
        go_wp2_with fail
        refine ref06_Take g s a3 e3 32768 _ hc5 ha3 hs (by decide) ?_
        rw [HR7.out]
        dsimp only
        intro w7 hc7 hx7
        have hoa7 := hoa5.apartP hc5 (by decide) hx7
        have hxa7 := hxa5.trans hx7 (fun _ _ h => h)
        clear hoa5 hxa5 hc5 hx7
        obtain ⟨c0, c1, c2, _, _⟩ := RCur.cells hc7
        have hW8 : w.heap.size ≤ w7.heap.size := hxa7.size
        by_cases he7 : e7 = 0
        · subst he7
          have hst7 : ∃ q, prL s (n - (l ++ [(k, m)]).length) a7 (keyL (l ++ [(k, m)])) (decide ((l ++ [(k, m)]).length = 0)) = q ∧ r = ((l ++ [(k, m)]) ++ q.1, q.2) := by
            rcases HSTP.out with ⟨_, h⟩ | ⟨h, _⟩
            · exact h
            · exact absurd rfl h
          have HST7 := Lib.hid hst7
          have hlen : (l ++ [(k, m)]).length = l.length + 1 := by simp
          have HLEN := Lib.hid hlen
          clear hlen hst7 HSTP
          go_wp2_with (first
            | (at_builtin; refine wpList_append_one rfl _ _ _ (by rfl) w.heap.size 34 i0 _ 2 32 Try.underlying22 hi0 hI0 hI1 hI2 rfl (by decide) itC (.slice A l.length c) l (by rfl) (hoa7.alloc _) (k, m) ⟨w7.heap.size, 0, none⟩ 1 (by rfl) rfl ((Blk.new _ _ _).news rfl) (itC_one _) (by unfold maxLen; omega) (by omega) (Nat.le_trans hW8 (by simp)) ?_
               intro g9 c9 w9 hown9 hx9 hst9))
          have hc9 := (Blk.alloc hc7 (.cells #[.string k, .string m] 34)).ext hx9 (Own.ne (hoa7.alloc (.cells #[.string k, .string m] 34)) (Blk.alloc hc7 _) (by decide))
          have hxa9 : Ext (· = g) w w9 := (hxa7.alloc (.cells #[.string k, .string m] 34)).trans hx9 (fun b hb e => absurd ((hoa7.alloc (.cells #[.string k, .string m] 34)).lt b e).1 (Nat.not_le.2 hb))
          go_roundw
          case rel => exact ⟨l ++ [(k, m)], some ⟨g9, 0, none⟩, c9, a7, 0, by rw [HLEN.out]; go_num, by rw [HLEN.out], by rw [HLEN.out]; exact hown9, by rw [HLEN.out]; omega, ha7, hc9, hxa9, by rw [keyL_snoc]; exact hk32, .inl ⟨rfl, HST7.out⟩⟩
          case measure => simp [RowKit.intOf]; omega
        · have heb : (e7 != 0) = true := by simpa using he7
          have hr2 : r.2 = (a7, e7) := by
            rcases HSTP.out with ⟨h, _⟩ | ⟨_, h⟩
            · exact absurd h he7
            · exact h
          rw [hr2] at HR
          dsimp only at HR
          rw [if_neg he7] at HR
          clear hr2 HSTP
          go_wp2_with fail
          exact HR.out none 0 _ (Row.nil _ _) (by decide) (fun _ e => by cases e) hc7 ha7 hxa7
      subst he3
      by_cases hkz : k.size = 0
      · have hke : ((k.size : Int) == 0) = true := by simp [hkz]
        have he4 : (14 : Int) = if (0 : Int) ≠ 0 then 0 else if k.size = 0 then 14 else if decide (l.length = 0) = false ∧ leB k (keyL l) = true then 6 else 0 := by
          rw [if_neg (by decide), if_pos hkz]
        have HE := Lib.hid he4
        clear he4 hkz
        go_upto_region 9 with fail
        have hse := Ext.self w3 g 2 (.int .i64 14)
        replace hoa5 := hoa5.apartP hc5 (by decide) hse
        replace hc5 : RCur (w3.setCell ⟨g, 2, none⟩ (.int .i64 14)) g s a3 14 := Blk.set hc5 2 _
        replace hxa5 := hxa5.trans hse (fun _ _ h => h)
        clear c0 c1 c2 f2 hse
        generalize w3.setCell ⟨g, 2, none⟩ (.int .i64 14) = w4 at *
        obtain ⟨c0, c1, c2, _, f2⟩ := RCur.cells hc5
        have hE4 : 14 = if (0 : Int) ≠ 0 then (0 : Int) else if k.size = 0 then 14 else if decide (l.length = 0) = false ∧ leB k (keyL l) = true then 6 else 0 := HE.out
        obtain ⟨r7, hr7⟩ : ∃ r, blobR s a3 14 32768 = r := ⟨_, rfl⟩
        obtain ⟨m, a7, e7⟩ := r7
        have ha7 : a7 ≤ s.size := by have := blobR_at (s := s) (e := 14) 32768 ha3; rw [hr7] at this; exact this
        have hstp := PrRel.step HQ.out HRQ.out hlt (prStep_eq HB3.out hE4 hr7)
        have HSTP := Lib.hid hstp
        have HR7 := Lib.hid hr7
        clear hstp hr7 hE4 HE
        go_wp2_with fail
        refine ref06_Take g s a3 14 32768 _ hc5 ha3 hs (by decide) ?_
        rw [HR7.out]
        dsimp only
        intro w7 hc7 hx7
        have hoa7 := hoa5.apartP hc5 (by decide) hx7
        have hxa7 := hxa5.trans hx7 (fun _ _ h => h)
        clear hoa5 hxa5 hc5 hx7
        obtain ⟨c0, c1, c2, _, _⟩ := RCur.cells hc7
        have hW8 : w.heap.size ≤ w7.heap.size := hxa7.size
        by_cases he7 : e7 = 0
        · subst he7
          have hst7 : ∃ q, prL s (n - (l ++ [(k, m)]).length) a7 (keyL (l ++ [(k, m)])) (decide ((l ++ [(k, m)]).length = 0)) = q ∧ r = ((l ++ [(k, m)]) ++ q.1, q.2) := by
            rcases HSTP.out with ⟨_, h⟩ | ⟨h, _⟩
            · exact h
            · exact absurd rfl h
          have HST7 := Lib.hid hst7
          have hlen : (l ++ [(k, m)]).length = l.length + 1 := by simp
          have HLEN := Lib.hid hlen
          clear hlen hst7 HSTP
          go_wp2_with (first
            | (at_builtin; refine wpList_append_one rfl _ _ _ (by rfl) w.heap.size 34 i0 _ 2 32 Try.underlying22 hi0 hI0 hI1 hI2 rfl (by decide) itC (.slice A l.length c) l (by rfl) (hoa7.alloc _) (k, m) ⟨w7.heap.size, 0, none⟩ 1 (by rfl) rfl ((Blk.new _ _ _).news rfl) (itC_one _) (by unfold maxLen; omega) (by omega) (Nat.le_trans hW8 (by simp)) ?_
               intro g9 c9 w9 hown9 hx9 hst9))
          have hc9 := (Blk.alloc hc7 (.cells #[.string k, .string m] 34)).ext hx9 (Own.ne (hoa7.alloc (.cells #[.string k, .string m] 34)) (Blk.alloc hc7 _) (by decide))
          have hxa9 : Ext (· = g) w w9 := (hxa7.alloc (.cells #[.string k, .string m] 34)).trans hx9 (fun b hb e => absurd ((hoa7.alloc (.cells #[.string k, .string m] 34)).lt b e).1 (Nat.not_le.2 hb))
          go_roundw
          case rel => exact ⟨l ++ [(k, m)], some ⟨g9, 0, none⟩, c9, a7, 0, by rw [HLEN.out]; go_num, by rw [HLEN.out], by rw [HLEN.out]; exact hown9, by rw [HLEN.out]; omega, ha7, hc9, hxa9, by rw [keyL_snoc]; exact hk32, .inl ⟨rfl, HST7.out⟩⟩
          case measure => simp [RowKit.intOf]; omega
        · have heb : (e7 != 0) = true := by simpa using he7
          have hr2 : r.2 = (a7, e7) := by
            rcases HSTP.out with ⟨h, _⟩ | ⟨_, h⟩
            · exact absurd h he7
            · exact h
          rw [hr2] at HR
          dsimp only at HR
          rw [if_neg he7] at HR
          clear hr2 HSTP
          go_wp2_with fail
          exact HR.out none 0 _ (Row.nil _ _) (by decide) (fun _ e => by cases e) hc7 ha7 hxa7
      · have hke : ((k.size : Int) == 0) = false := by
          have : ¬ (k.size : Int) = 0 := by omega
          simpa using this
        have HKZ := Lib.hid hkz
        clear hkz
        by_cases hlz : l.length = 0
        · have hz1 : ¬ (0 : Int) < (l.length : Int) := by omega
          have hz2 : decide ((0 : Int) < (l.length : Int)) = false := decide_eq_false hz1
          have hz3 : ¬ 0 < l.length := by omega
          have hz4 : decide (0 < l.length) = false := decide_eq_false hz3
          have he4 : (0 : Int) = if (0 : Int) ≠ 0 then 0 else if k.size = 0 then 14 else if decide (l.length = 0) = false ∧ leB k (keyL l) = true then 6 else 0 := by
            rw [if_neg HKZ.out, show decide (l.length = 0) = true from decide_eq_true hlz]; simp
          have HE := Lib.hid he4
          clear he4 hlz
          have hE4 : 0 = if (0 : Int) ≠ 0 then (0 : Int) else if k.size = 0 then 14 else if decide (l.length = 0) = false ∧ leB k (keyL l) = true then 6 else 0 := HE.out
          obtain ⟨r7, hr7⟩ : ∃ r, blobR s a3 0 32768 = r := ⟨_, rfl⟩
          obtain ⟨m, a7, e7⟩ := r7
          have ha7 : a7 ≤ s.size := by have := blobR_at (s := s) (e := 0) 32768 ha3; rw [hr7] at this; exact this
          have hstp := PrRel.step HQ.out HRQ.out hlt (prStep_eq HB3.out hE4 hr7)
          have HSTP := Lib.hid hstp
          have HR7 := Lib.hid hr7
          clear hstp hr7 hE4 HE
          go_wp2_with fail
          refine ref06_Take g s a3 0 32768 _ hc5 ha3 hs (by decide) ?_
          rw [HR7.out]
          dsimp only
          intro w7 hc7 hx7
          have hoa7 := hoa5.apartP hc5 (by decide) hx7
          have hxa7 := hxa5.trans hx7 (fun _ _ h => h)
          clear hoa5 hxa5 hc5 hx7
          obtain ⟨c0, c1, c2, _, _⟩ := RCur.cells hc7
          have hW8 : w.heap.size ≤ w7.heap.size := hxa7.size
          by_cases he7 : e7 = 0
          · subst he7
            have hst7 : ∃ q, prL s (n - (l ++ [(k, m)]).length) a7 (keyL (l ++ [(k, m)])) (decide ((l ++ [(k, m)]).length = 0)) = q ∧ r = ((l ++ [(k, m)]) ++ q.1, q.2) := by
              rcases HSTP.out with ⟨_, h⟩ | ⟨h, _⟩
              · exact h
              · exact absurd rfl h
            have HST7 := Lib.hid hst7
            have hlen : (l ++ [(k, m)]).length = l.length + 1 := by simp
            have HLEN := Lib.hid hlen
            clear hlen hst7 HSTP
            go_wp2_with (first
              | (at_builtin; refine wpList_append_one rfl _ _ _ (by rfl) w.heap.size 34 i0 _ 2 32 Try.underlying22 hi0 hI0 hI1 hI2 rfl (by decide) itC (.slice A l.length c) l (by rfl) (hoa7.alloc _) (k, m) ⟨w7.heap.size, 0, none⟩ 1 (by rfl) rfl ((Blk.new _ _ _).news rfl) (itC_one _) (by unfold maxLen; omega) (by omega) (Nat.le_trans hW8 (by simp)) ?_
                 intro g9 c9 w9 hown9 hx9 hst9))
            have hc9 := (Blk.alloc hc7 (.cells #[.string k, .string m] 34)).ext hx9 (Own.ne (hoa7.alloc (.cells #[.string k, .string m] 34)) (Blk.alloc hc7 _) (by decide))
            have hxa9 : Ext (· = g) w w9 := (hxa7.alloc (.cells #[.string k, .string m] 34)).trans hx9 (fun b hb e => absurd ((hoa7.alloc (.cells #[.string k, .string m] 34)).lt b e).1 (Nat.not_le.2 hb))
            go_roundw
            case rel => exact ⟨l ++ [(k, m)], some ⟨g9, 0, none⟩, c9, a7, 0, by rw [HLEN.out]; go_num, by rw [HLEN.out], by rw [HLEN.out]; exact hown9, by rw [HLEN.out]; omega, ha7, hc9, hxa9, by rw [keyL_snoc]; exact hk32, .inl ⟨rfl, HST7.out⟩⟩
            case measure => simp [RowKit.intOf]; omega
          · have heb : (e7 != 0) = true := by simpa using he7
            have hr2 : r.2 = (a7, e7) := by
              rcases HSTP.out with ⟨h, _⟩ | ⟨_, h⟩
              · exact absurd h he7
              · exact h
            rw [hr2] at HR
            dsimp only at HR
            rw [if_neg he7] at HR
            clear hr2 HSTP
            go_wp2_with fail
            exact HR.out none 0 _ (Row.nil _ _) (by decide) (fun _ e => by cases e) hc7 ha7 hxa7
        · have hz1 : (0 : Int) < (l.length : Int) := by omega
          have hz2 : decide ((0 : Int) < (l.length : Int)) = true := decide_eq_true hz1
          have hz3 : 0 < l.length := by omega
          have hz4 : decide (0 < l.length) = true := decide_eq_true hz3
          have hjl : ((l.length - 1 : Nat) : Int) < (l.length : Int) := by omega
          have hjn : (0 : Int) ≤ ((l.length - 1 : Nat) : Int) := Int.natCast_nonneg _
          obtain ⟨b, o, hA, hb, d0, d1⟩ := (Row.of_own hoa5).it (l.length - 1) (by omega)
          have hkl : keyL l = (l.getD (l.length - 1) (emp, emp)).1 := by unfold keyL lastK; rw [if_neg hlz]
          rw [← hkl] at d0
          obtain ⟨k', hk'⟩ : ∃ k', keyL l = k' := ⟨_, rfl⟩
          rw [hk'] at d0 hkl32
          have hle := leB_not k k'
          rw [← hk'] at hle
          have HLE := Lib.hid hle
          have HLZ := Lib.hid hlz
          have HKK := Lib.hid hk'
          have hjw : wrap64 ((l.length : Int) - 1) = ((l.length - 1 : Nat) : Int) := by
            have e : (l.length : Int) - 1 = ((l.length - 1 : Nat) : Int) := by omega
            rw [e]; unfold wrap64; omega
          clear hle hkl hlz hk' d1
          subst hA
          cases hL : Op.bytesLess k'.toList k.toList
          · have he4 : (6 : Int) = if (0 : Int) ≠ 0 then 0 else if k.size = 0 then 14 else if decide (l.length = 0) = false ∧ leB k (keyL l) = true then 6 else 0 := by
              rw [if_neg HKZ.out, HLE.out, HKK.out, hL, show decide (l.length = 0) = false from decide_eq_false HLZ.out]; simp
            have HE := Lib.hid he4
            clear he4 HLZ HLE HKK
            go_wp2_with fail
            refine (ref06_Below k' k _ (by omega)).mono ?_
            rw [hL]
            rintro x w' ⟨rfl, nq, rfl⟩
            replace hoa5 : Own (w3.drewN nq) _ _ _ _ _ _ := hoa5
            replace hc5 : RCur (w3.drewN nq) g s a3 0 := hc5
            replace hxa5 : Ext (· = g) w (w3.drewN nq) := hxa5.drewN nq
            clear hz1 hz2 hz3 hz4 hjw hjl hjn d0 hL c0 c1 c2 f2
            generalize w3.drewN nq = w4 at *
            obtain ⟨c0, c1, c2, _, f2⟩ := RCur.cells hc5
            go_upto_region 11 with fail
            have hse := Ext.self w4 g 2 (.int .i64 6)
            replace hoa5 := hoa5.apartP hc5 (by decide) hse
            replace hc5 : RCur (w4.setCell ⟨g, 2, none⟩ (.int .i64 6)) g s a3 6 := Blk.set hc5 2 _
            replace hxa5 := hxa5.trans hse (fun _ _ h => h)
            clear c0 c1 c2 f2 hse
            generalize w4.setCell ⟨g, 2, none⟩ (.int .i64 6) = w5 at *
            have hE4 : 6 = if (0 : Int) ≠ 0 then (0 : Int) else if k.size = 0 then 14 else if decide (l.length = 0) = false ∧ leB k (keyL l) = true then 6 else 0 := HE.out
            obtain ⟨r7, hr7⟩ : ∃ r, blobR s a3 6 32768 = r := ⟨_, rfl⟩
            obtain ⟨m, a7, e7⟩ := r7
            have ha7 : a7 ≤ s.size := by have := blobR_at (s := s) (e := 6) 32768 ha3; rw [hr7] at this; exact this
            have hstp := PrRel.step HQ.out HRQ.out hlt (prStep_eq HB3.out hE4 hr7)
            have HSTP := Lib.hid hstp
            have HR7 := Lib.hid hr7
            clear hstp hr7 hE4 HE
            go_wp2_with fail
            refine ref06_Take g s a3 6 32768 _ hc5 ha3 hs (by decide) ?_
            rw [HR7.out]
            dsimp only
            intro w7 hc7 hx7
            have hoa7 := hoa5.apartP hc5 (by decide) hx7
            have hxa7 := hxa5.trans hx7 (fun _ _ h => h)
            clear hoa5 hxa5 hc5 hx7
            obtain ⟨c0, c1, c2, _, _⟩ := RCur.cells hc7
            have hW8 : w.heap.size ≤ w7.heap.size := hxa7.size
            by_cases he7 : e7 = 0
            · subst he7
              have hst7 : ∃ q, prL s (n - (l ++ [(k, m)]).length) a7 (keyL (l ++ [(k, m)])) (decide ((l ++ [(k, m)]).length = 0)) = q ∧ r = ((l ++ [(k, m)]) ++ q.1, q.2) := by
                rcases HSTP.out with ⟨_, h⟩ | ⟨h, _⟩
                · exact h
                · exact absurd rfl h
              have HST7 := Lib.hid hst7
              have hlen : (l ++ [(k, m)]).length = l.length + 1 := by simp
              have HLEN := Lib.hid hlen
              clear hlen hst7 HSTP
              go_wp2_with (first
                | (at_builtin; refine wpList_append_one rfl _ _ _ (by rfl) w.heap.size 34 i0 _ 2 32 Try.underlying22 hi0 hI0 hI1 hI2 rfl (by decide) itC (.slice (some ⟨b, o, none⟩) l.length c) l (by rfl) (hoa7.alloc _) (k, m) ⟨w7.heap.size, 0, none⟩ 1 (by rfl) rfl ((Blk.new _ _ _).news rfl) (itC_one _) (by unfold maxLen; omega) (by omega) (Nat.le_trans hW8 (by simp)) ?_
                   intro g9 c9 w9 hown9 hx9 hst9))
              have hc9 := (Blk.alloc hc7 (.cells #[.string k, .string m] 34)).ext hx9 (Own.ne (hoa7.alloc (.cells #[.string k, .string m] 34)) (Blk.alloc hc7 _) (by decide))
              have hxa9 : Ext (· = g) w w9 := (hxa7.alloc (.cells #[.string k, .string m] 34)).trans hx9 (fun b hb e => absurd ((hoa7.alloc (.cells #[.string k, .string m] 34)).lt b e).1 (Nat.not_le.2 hb))
              go_roundw
              case rel => exact ⟨l ++ [(k, m)], some ⟨g9, 0, none⟩, c9, a7, 0, by rw [HLEN.out]; go_num, by rw [HLEN.out], by rw [HLEN.out]; exact hown9, by rw [HLEN.out]; omega, ha7, hc9, hxa9, by rw [keyL_snoc]; exact hk32, .inl ⟨rfl, HST7.out⟩⟩
              case measure => simp [RowKit.intOf]; omega
            · have heb : (e7 != 0) = true := by simpa using he7
              have hr2 : r.2 = (a7, e7) := by
                rcases HSTP.out with ⟨h, _⟩ | ⟨_, h⟩
                · exact absurd h he7
                · exact h
              rw [hr2] at HR
              dsimp only at HR
              rw [if_neg he7] at HR
              clear hr2 HSTP
              go_wp2_with fail
              exact HR.out none 0 _ (Row.nil _ _) (by decide) (fun _ e => by cases e) hc7 ha7 hxa7
          · have he4 : (0 : Int) = if (0 : Int) ≠ 0 then 0 else if k.size = 0 then 14 else if decide (l.length = 0) = false ∧ leB k (keyL l) = true then 6 else 0 := by
              rw [if_neg HKZ.out, HLE.out, HKK.out, hL]; simp
            have HE := Lib.hid he4
            clear he4 HLZ HLE HKK
            go_wp2_with fail
            refine (ref06_Below k' k _ (by omega)).mono ?_
            rw [hL]
            rintro x w' ⟨rfl, nq, rfl⟩
            replace hoa5 : Own (w3.drewN nq) _ _ _ _ _ _ := hoa5
            replace hc5 : RCur (w3.drewN nq) g s a3 0 := hc5
            replace hxa5 : Ext (· = g) w (w3.drewN nq) := hxa5.drewN nq
            clear hz1 hz2 hz3 hz4 hjw hjl hjn d0 hL c0 c1 c2 f2
            generalize w3.drewN nq = w4 at *
            have hE4 : 0 = if (0 : Int) ≠ 0 then (0 : Int) else if k.size = 0 then 14 else if decide (l.length = 0) = false ∧ leB k (keyL l) = true then 6 else 0 := HE.out
            obtain ⟨r7, hr7⟩ : ∃ r, blobR s a3 0 32768 = r := ⟨_, rfl⟩
            obtain ⟨m, a7, e7⟩ := r7
            have ha7 : a7 ≤ s.size := by have := blobR_at (s := s) (e := 0) 32768 ha3; rw [hr7] at this; exact this
            have hstp := PrRel.step HQ.out HRQ.out hlt (prStep_eq HB3.out hE4 hr7)
            have HSTP := Lib.hid hstp
            have HR7 := Lib.hid hr7
            clear hstp hr7 hE4 HE
            go_wp2_with fail
            refine ref06_Take g s a3 0 32768 _ hc5 ha3 hs (by decide) ?_
            rw [HR7.out]
            dsimp only
            intro w7 hc7 hx7
            have hoa7 := hoa5.apartP hc5 (by decide) hx7
            have hxa7 := hxa5.trans hx7 (fun _ _ h => h)
            clear hoa5 hxa5 hc5 hx7
            obtain ⟨c0, c1, c2, _, _⟩ := RCur.cells hc7
            have hW8 : w.heap.size ≤ w7.heap.size := hxa7.size
            by_cases he7 : e7 = 0
            · subst he7
              have hst7 : ∃ q, prL s (n - (l ++ [(k, m)]).length) a7 (keyL (l ++ [(k, m)])) (decide ((l ++ [(k, m)]).length = 0)) = q ∧ r = ((l ++ [(k, m)]) ++ q.1, q.2) := by
                rcases HSTP.out with ⟨_, h⟩ | ⟨h, _⟩
                · exact h
                · exact absurd rfl h
              have HST7 := Lib.hid hst7
              have hlen : (l ++ [(k, m)]).length = l.length + 1 := by simp
              have HLEN := Lib.hid hlen
              clear hlen hst7 HSTP
              go_wp2_with (first
                | (at_builtin; refine wpList_append_one rfl _ _ _ (by rfl) w.heap.size 34 i0 _ 2 32 Try.underlying22 hi0 hI0 hI1 hI2 rfl (by decide) itC (.slice (some ⟨b, o, none⟩) l.length c) l (by rfl) (hoa7.alloc _) (k, m) ⟨w7.heap.size, 0, none⟩ 1 (by rfl) rfl ((Blk.new _ _ _).news rfl) (itC_one _) (by unfold maxLen; omega) (by omega) (Nat.le_trans hW8 (by simp)) ?_
                   intro g9 c9 w9 hown9 hx9 hst9))
              have hc9 := (Blk.alloc hc7 (.cells #[.string k, .string m] 34)).ext hx9 (Own.ne (hoa7.alloc (.cells #[.string k, .string m] 34)) (Blk.alloc hc7 _) (by decide))
              have hxa9 : Ext (· = g) w w9 := (hxa7.alloc (.cells #[.string k, .string m] 34)).trans hx9 (fun b hb e => absurd ((hoa7.alloc (.cells #[.string k, .string m] 34)).lt b e).1 (Nat.not_le.2 hb))
              go_roundw
              case rel => exact ⟨l ++ [(k, m)], some ⟨g9, 0, none⟩, c9, a7, 0, by rw [HLEN.out]; go_num, by rw [HLEN.out], by rw [HLEN.out]; exact hown9, by rw [HLEN.out]; omega, ha7, hc9, hxa9, by rw [keyL_snoc]; exact hk32, .inl ⟨rfl, HST7.out⟩⟩
              case measure => simp [RowKit.intOf]; omega
            · have heb : (e7 != 0) = true := by simpa using he7
              have hr2 : r.2 = (a7, e7) := by
                rcases HSTP.out with ⟨h, _⟩ | ⟨_, h⟩
                · exact absurd h he7
                · exact h
              rw [hr2] at HR
              dsimp only at HR
              rw [if_neg he7] at HR
              clear hr2 HSTP
              go_wp2_with fail
              exact HR.out none 0 _ (Row.nil _ _) (by decide) (fun _ e => by cases e) hc7 ha7 hxa7
    · have hlt1 : ¬ (l.length : Int) < (n : Int) := by omega
      have hlt2 : decide ((l.length : Int) < (n : Int)) = false := decide_eq_false hlt1
      by_cases he2 : e2 = 0
      · obtain ⟨q, hq, hrq⟩ : ∃ q, prL s (n - l.length) a2 (keyL l) (decide (l.length = 0)) = q ∧ r = (l ++ q.1, q.2) := by
          rcases hrst with ⟨_, h⟩ | ⟨h, _⟩
          · exact h
          · exact absurd he2 h
        rw [show n - l.length = 0 by omega, prL] at hq
        subst he2 hq hrq
        dsimp only at HR
        rw [if_pos rfl, List.append_nil] at HR
        clear hrst
        go_wp2_with fail
        exact HR.out A c _ (Row.of_own hown) (by omega) (fun ad e => (hown.lt ad.block (by rw [e]; rfl)).1) hcur ha2 hext
      · obtain ⟨_, hn, hrq⟩ : e2 ≠ 0 ∧ n = 0 ∧ r = ([], a2, e2) := by
          rcases hrst with ⟨h, _⟩ | h
          · exact absurd h he2
          · exact h
        have hln : l = [] := List.eq_nil_of_length_eq_zero (by omega)
        subst hrq hln
        dsimp only at HR
        rw [if_neg he2] at HR
        clear hrst hn hl
        go_wp2_with fail
        exact HR.out A c _ (Row.of_own hown) (by decide) (fun ad e => (hown.lt ad.block (by rw [e]; rfl)).1) hcur ha2 hext
end
end Go.Proofs.Ytgjiedjfplbipaa
