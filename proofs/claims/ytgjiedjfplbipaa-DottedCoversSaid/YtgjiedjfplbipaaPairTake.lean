/- pairs.Take. -/
import Derived.Test.YtgjiedjfplbipaaPairMath
import Derived.Test.YtgjiedjfplbipaaPageTake
namespace Go.Proofs.Ytgjiedjfplbipaa
open Go.RowKit Go.Lib
section
/-- A pair that is read behind place a. -/
def prStep (s : ByteArray) (a : Nat) (last : ByteArray) (first : Bool) : It × Nat × Int :=
  let r := blobR s a 0 32
  let e1 := if r.2.2 ≠ 0 then r.2.2 else if r.1.size = 0 then 14 else if first = false ∧ leB r.1 last = true then 6 else 0
  let q := blobR s r.2.1 e1 32768
  ((r.1, q.1), q.2.1, q.2.2)
def prL (s : ByteArray) : Nat → Nat → ByteArray → Bool → List It × Nat × Int
  | 0, a, _, _ => ([], a, 0)
  | n + 1, a, last, first =>
    let r := prStep s a last first
    if r.2.2 ≠ 0 then ([], r.2.1, r.2.2) else ((r.1 :: (prL s n r.2.1 r.1.1 false).1), (prL s n r.2.1 r.1.1 false).2)
def pairsR (s : ByteArray) (a : Nat) (e : Int) : List It × Nat × Int :=
  let c := countR s a e 8
  if c.2.2 ≠ 0 then ([], c.2.1, c.2.2) else prL s c.1 c.2.1 emp true
/-- The pairs that are read behind place a. -/
def pairsT (s : ByteArray) (a : Nat) (e : Int) : List It × Nat × Int :=
  let r := pairsR s a e
  (if r.2.2 = 0 then r.1 else [], r.2)
theorem info_pr : (Try.prog.info? 34).map (fun i => (i.zero, i.size, i.bytes)) = some (some (.agg #[.string ⟨#[]⟩, .string ⟨#[]⟩]), 2, 32) := by kernel_rfl
def PrRel (W : World) (s : ByteArray) (g n : Nat) (r : List It × Nat × Int) (out : Value) (w : World) : Prop :=
  ∃ (l : List It) (A : Option Addr) (c a : Nat) (e : Int), out = .slice A l.length c ∧ Own w W.heap.size 34 2 itC (.slice A l.length c) l ∧ l.length ≤ n ∧ a ≤ s.size ∧ Cur w g s a e ∧ Ext (· = g) W w ∧
    ((e = 0 ∧ ∃ q, prL s (n - l.length) a (keyL l) (decide (l.length = 0)) = q ∧ r = (l ++ q.1, q.2)) ∨ (e ≠ 0 ∧ r.2 = (a, e)))
theorem PrRel.step {s : ByteArray} {n a2 a' : Nat} {e' : Int} {l : List It} {q r : List It × Nat × Int} {x : It} (hq : prL s (n - l.length) a2 (keyL l) (decide (l.length = 0)) = q) (hr : r = (l ++ q.1, q.2)) (hlt : l.length < n)
    (hstep : prStep s a2 (keyL l) (decide (l.length = 0)) = (x, a', e')) :
    (e' = 0 ∧ ∃ q, prL s (n - (l ++ [x]).length) a' (keyL (l ++ [x])) (decide ((l ++ [x]).length = 0)) = q ∧ r = ((l ++ [x]) ++ q.1, q.2)) ∨ (e' ≠ 0 ∧ r.2 = (a', e')) := by
  obtain ⟨m, hm⟩ : ∃ m, n - l.length = m + 1 := ⟨n - l.length - 1, by omega⟩
  have hm2 : n - (l ++ [x]).length = m := by rw [List.length_append, List.length_singleton]; omega
  rw [hm, prL, hstep] at hq
  dsimp only at hq
  rw [hm2, keyL_snoc, show decide ((l ++ [x]).length = 0) = false by simp]
  by_cases he : e' = 0
  · rw [if_neg (by omega)] at hq
    exact .inl ⟨he, _, rfl, by rw [hr, ← hq]; simp⟩
  · rw [if_pos he] at hq
    exact .inr ⟨he, by rw [hr, ← hq]⟩
theorem prStep_eq {s last k m : ByteArray} {first : Bool} {a a3 a' : Nat} {e3 e4 e' : Int} (h1 : blobR s a 0 32 = (k, a3, e3)) (h2 : e4 = if e3 ≠ 0 then e3 else if k.size = 0 then 14 else if first = false ∧ leB k last = true then 6 else 0)
    (h3 : blobR s a3 e4 32768 = (m, a', e')) : prStep s a last first = ((k, m), a', e') := by
  unfold prStep
  rw [h1]; dsimp only
  rw [← h2, h3]
theorem Own.curP {w w' : World} {B g at_ : Nat} {s : ByteArray} {e : Int} {v : Value} {l : List It} (h : Own w B 34 2 itC v l) (hc : Cur w g s at_ e) (hx : Ext (· = g) w w') : Own w' B 34 2 itC v l :=
  h.ext hx (fun b hb e => by
    obtain ⟨cs, hcs⟩ := h.blkT hb
    subst e
    exact hcs.ne hc (by decide) rfl)


set_option maxHeartbeats 4000000 in
set_option maxRecDepth 100000 in
theorem pairs_Take (g : Nat) (s : ByteArray) (a : Nat) (e : Int) (w : World) (h : Cur w g s a e) (ha : a ≤ s.size) (hs : s.size ≤ 140737488351232) {R : Ending → World → Prop}
    (hR : ∀ A c w', Row w' A (flat itC (pairsT s a e).1) → (pairsT s a e).1.length ≤ 8 → (∀ ad, A = some ad → w.heap.size ≤ ad.block) → Cur w' g s (pairsT s a e).2.1 (pairsT s a e).2.2 → (pairsT s a e).2.1 ≤ s.size → Ext (· = g) w w' → R (.returned (.slice A (pairsT s a e).1.length c)) w') :
    Calls Try.prog 22 #[.pointer (some ⟨g, 0, none⟩)] w R := by
  obtain ⟨i0, hi0, hI0, hI1, hI2⟩ := info_parts info_pr
  have HR := Lib.hid hR
  clear hR
  go_enter Try.func22, Try.ntmps22
  go_wp2_with fail
  refine blob_Count g s a e 8 w h ha (by omega) (by decide) ?_
  have hcn := countR_le s a e 8
  have hca := countR_at (e := e) 8 ha
  unfold pairsT at HR
  obtain ⟨r, hr⟩ : ∃ r, pairsR s a e = r := ⟨_, rfl⟩
  rw [hr] at HR
  dsimp only at HR
  unfold pairsR at hr
  generalize countR s a e 8 = cr at *
  obtain ⟨n, a1, e1⟩ := cr
  dsimp only at hcn hca hr ⊢
  intro w1 hc1 hx1
  have hn0 : (0 : Int) ≤ (n : Int) := Int.natCast_nonneg _
  have hst : (e1 = 0 ∧ ∃ q, prL s (n - 0) a1 (keyL []) (decide (0 = 0)) = q ∧ r = ([] ++ q.1, q.2)) ∨ (e1 ≠ 0 ∧ r.2 = (a1, e1)) := by
    by_cases he : e1 = 0
    · subst he
      rw [if_neg (by decide)] at hr
      exact .inl ⟨rfl, _, rfl, by rw [← hr]; rfl⟩
    · rw [if_pos he] at hr
      exact .inr ⟨he, by rw [← hr]⟩
  have HST := Lib.hid hst
  clear hr h hst
  go_wp2_with fail
  go_loopw [4] (PrRel w s g n r) (fun o w' => n - sliceLen o)
  case atStart => exact ⟨[], none, 0, a1, e1, rfl, Own.nil _ _ _ _, Nat.zero_le _, hca, hc1, hx1, HST.out⟩
  case round =>
    obtain ⟨l, A, c, a2, e2, rfl, hown, hl, ha2, hcur, hext, hrst⟩ := hrel
    clear hc1 hx1 HST hca
    go_wp2_with fail
    refine (cursor_Err g s a2 e2 _ hcur).mono ?_
    rintro x w' ⟨rfl, rfl⟩
    by_cases he : e2 = 0
    · obtain ⟨q, hq, hrq⟩ : ∃ q, prL s (n - l.length) a2 (keyL l) (decide (l.length = 0)) = q ∧ r = (l ++ q.1, q.2) := by
        rcases hrst with ⟨_, h⟩ | ⟨h, _⟩
        · exact h
        · exact absurd he h
      clear hrst
      subst he
      have hl0 : (0 : Int) ≤ (l.length : Int) := Int.natCast_nonneg _
      by_cases hlt : l.length < n
      · have hlt1 : (l.length : Int) < (n : Int) := by omega
        have hlt2 : decide ((l.length : Int) < (n : Int)) = true := decide_eq_true hlt1
        obtain ⟨r3, hr3⟩ : ∃ r, blobR s a2 0 32 = r := ⟨_, rfl⟩
        obtain ⟨k, a3, e3⟩ := r3
        have ha3 : a3 ≤ s.size := by have := blobR_at (s := s) (e := 0) 32 ha2; rw [hr3] at this; exact this
        have HB3 := Lib.hid hr3
        have HQ := Lib.hid hq
        have HRQ := Lib.hid hrq
        clear hr3 hq hrq
        go_wp2_with fail
        refine blob_Take g s a2 0 32 _ hcur ha2 (by omega) (by decide) ?_
        rw [HB3.out]
        dsimp only
        intro w3 hc5 hx3
        have hxa5 := hext.trans hx3 (fun _ _ h => h)
        have hoa5 := hown.curP hcur hx3
        clear hext hown hcur hx3
        by_cases hkz : k.size = 0
        · have hke := str_em k hkz
          have he4 : (if e3 = 0 then 14 else e3) = if e3 ≠ 0 then e3 else if k.size = 0 then 14 else if decide (l.length = 0) = false ∧ leB k (keyL l) = true then 6 else 0 := by
            rw [if_pos hkz]; by_cases c : e3 = 0 <;> simp [c]
          have HE := Lib.hid he4
          clear he4 hkz
          go_wp2_with fail
          refine cursor_Fail g s a3 e3 14 w3 hc5 ?_
          intro w5 hc6 hx5
          replace hoa5 := hoa5.curP hc5 hx5
          replace hxa5 := hxa5.trans hx5 (fun _ _ h => h)
          replace hc5 := hc6
          clear hx5
          have hE4 : (if e3 = 0 then 14 else e3) = if e3 ≠ 0 then e3 else if k.size = 0 then 14 else if decide (l.length = 0) = false ∧ leB k (keyL l) = true then 6 else 0 := HE.out
          generalize (if e3 = 0 then 14 else e3) = e4 at *
          obtain ⟨r7, hr7⟩ : ∃ r, blobR s a3 e4 32768 = r := ⟨_, rfl⟩
          obtain ⟨m, a7, e7⟩ := r7
          have ha7 : a7 ≤ s.size := by have := blobR_at (s := s) (e := e4) 32768 ha3; rw [hr7] at this; exact this
          have hstp := PrRel.step HQ.out HRQ.out hlt (prStep_eq HB3.out hE4 hr7)
          have HSTP := Lib.hid hstp
          have HR7 := Lib.hid hr7
          clear hstp hr7 hE4 HE
          go_wp2_with fail
          refine blob_Take g s a3 e4 32768 _ hc5 ha3 (by omega) (by decide) ?_
          rw [HR7.out]
          dsimp only
          intro w7 hc7 hx7
          have hoa7 := hoa5.curP hc5 hx7
          have hxa7 := hxa5.trans hx7 (fun _ _ h => h)
          clear hoa5 hxa5 hc5 hx7
          have hW8 : w.heap.size ≤ w7.heap.size := hxa7.size
          have hlen : (l ++ [(k, m)]).length = l.length + 1 := by simp
          have HLEN := Lib.hid hlen
          clear hlen
          go_wp2_with (first
            | (at_builtin; refine wpList_append_one rfl _ _ _ (by rfl) w.heap.size 34 i0 _ 2 32 Try.underlying22 hi0 hI0 hI1 hI2 rfl (by decide) itC (.slice A l.length c) l (by rfl) (hoa7.alloc _) (k, m) ⟨w7.heap.size, 0, none⟩ 1 (by rfl) rfl ((Blk.new _ _ _).news rfl) (itC_one _) (by unfold maxLen; omega) (by omega) (Nat.le_trans hW8 (by simp)) ?_
               intro g9 c9 w9 hown9 hx9 hst9
               have hc9 := (hc7.alloc (.cells #[.string k, .string m] 34)).ext hx9 (Own.ne (hoa7.alloc (.cells #[.string k, .string m] 34)) (Blk.alloc hc7 _) (by decide))
               have hxa9 : Ext (· = g) w w9 := (hxa7.alloc (.cells #[.string k, .string m] 34)).trans hx9 (fun b hb e => absurd ((hoa7.alloc (.cells #[.string k, .string m] 34)).lt b e).1 (Nat.not_le.2 hb))))
          go_roundw
          case rel => exact ⟨l ++ [(k, m)], some ⟨g9, 0, none⟩, c9, a7, e7, by rw [HLEN.out], by rw [HLEN.out]; exact hown9, by rw [HLEN.out]; omega, ha7, hc9, hxa9, HSTP.out⟩
          case measure => simp [sliceLen]; omega
        · have hke := str_ne' k (by omega)
          have HKZ := Lib.hid hkz
          clear hkz
          by_cases hlz : l.length = 0
          · have hz1 : ¬ (0 : Int) < (l.length : Int) := by omega
            have hz2 : decide ((0 : Int) < (l.length : Int)) = false := decide_eq_false hz1
            have hz3 : ¬ 0 < l.length := by omega
            have hz4 : decide (0 < l.length) = false := decide_eq_false hz3
            have he4 : e3 = if e3 ≠ 0 then e3 else if k.size = 0 then 14 else if decide (l.length = 0) = false ∧ leB k (keyL l) = true then 6 else 0 := by
              rw [if_neg HKZ.out, show decide (l.length = 0) = true from decide_eq_true hlz]; by_cases c : e3 = 0 <;> simp [c]
            have HE := Lib.hid he4
            clear he4 hlz
            have hE4 : e3 = if e3 ≠ 0 then e3 else if k.size = 0 then 14 else if decide (l.length = 0) = false ∧ leB k (keyL l) = true then 6 else 0 := HE.out
            generalize e3 = e4 at *
            obtain ⟨r7, hr7⟩ : ∃ r, blobR s a3 e4 32768 = r := ⟨_, rfl⟩
            obtain ⟨m, a7, e7⟩ := r7
            have ha7 : a7 ≤ s.size := by have := blobR_at (s := s) (e := e4) 32768 ha3; rw [hr7] at this; exact this
            have hstp := PrRel.step HQ.out HRQ.out hlt (prStep_eq HB3.out hE4 hr7)
            have HSTP := Lib.hid hstp
            have HR7 := Lib.hid hr7
            clear hstp hr7 hE4 HE
            go_wp2_with fail
            refine blob_Take g s a3 e4 32768 _ hc5 ha3 (by omega) (by decide) ?_
            rw [HR7.out]
            dsimp only
            intro w7 hc7 hx7
            have hoa7 := hoa5.curP hc5 hx7
            have hxa7 := hxa5.trans hx7 (fun _ _ h => h)
            clear hoa5 hxa5 hc5 hx7
            have hW8 : w.heap.size ≤ w7.heap.size := hxa7.size
            have hlen : (l ++ [(k, m)]).length = l.length + 1 := by simp
            have HLEN := Lib.hid hlen
            clear hlen
            go_wp2_with (first
              | (at_builtin; refine wpList_append_one rfl _ _ _ (by rfl) w.heap.size 34 i0 _ 2 32 Try.underlying22 hi0 hI0 hI1 hI2 rfl (by decide) itC (.slice A l.length c) l (by rfl) (hoa7.alloc _) (k, m) ⟨w7.heap.size, 0, none⟩ 1 (by rfl) rfl ((Blk.new _ _ _).news rfl) (itC_one _) (by unfold maxLen; omega) (by omega) (Nat.le_trans hW8 (by simp)) ?_
                 intro g9 c9 w9 hown9 hx9 hst9
                 have hc9 := (hc7.alloc (.cells #[.string k, .string m] 34)).ext hx9 (Own.ne (hoa7.alloc (.cells #[.string k, .string m] 34)) (Blk.alloc hc7 _) (by decide))
                 have hxa9 : Ext (· = g) w w9 := (hxa7.alloc (.cells #[.string k, .string m] 34)).trans hx9 (fun b hb e => absurd ((hoa7.alloc (.cells #[.string k, .string m] 34)).lt b e).1 (Nat.not_le.2 hb))))
            go_roundw
            case rel => exact ⟨l ++ [(k, m)], some ⟨g9, 0, none⟩, c9, a7, e7, by rw [HLEN.out], by rw [HLEN.out]; exact hown9, by rw [HLEN.out]; omega, ha7, hc9, hxa9, HSTP.out⟩
            case measure => simp [sliceLen]; omega
          · have hz1 : (0 : Int) < (l.length : Int) := by omega
            have hz2 : decide ((0 : Int) < (l.length : Int)) = true := decide_eq_true hz1
            have hz3 : 0 < l.length := by omega
            have hz4 : decide (0 < l.length) = true := decide_eq_true hz3
            have hjw : wrap64 ((l.length : Int) - 1) = ((l.length - 1 : Nat) : Int) := by
              have e : (l.length : Int) - 1 = ((l.length - 1 : Nat) : Int) := by omega
              rw [e]; unfold wrap64; omega
            have hjl : ((l.length - 1 : Nat) : Int) < (l.length : Int) := by omega
            have hjn : (0 : Int) ≤ ((l.length - 1 : Nat) : Int) := Int.natCast_nonneg _
            obtain ⟨b, o, hA, hb, d0, d1⟩ := (Row.of_own hoa5).it (l.length - 1) (by omega)
            have hkl : keyL l = (l.getD (l.length - 1) (emp, emp)).1 := by unfold keyL lastK; rw [if_neg hlz]
            rw [← hkl] at d0
            obtain ⟨x, hx⟩ : ∃ x, Op.bytesLess k.toList (keyL l).toList = x := ⟨_, rfl⟩
            obtain ⟨y, hy⟩ : ∃ y, (k.toList == (keyL l).toList) = y := ⟨_, rfl⟩
            have hle := leB_of hx hy
            have HLE := Lib.hid hle
            have HLZ := Lib.hid hlz
            clear hle hkl hlz d1
            subst hA
            cases hxy : (x || y)
            · obtain ⟨rfl, rfl⟩ : x = false ∧ y = false := by cases x <;> cases y <;> simp_all
              have he4 : e3 = if e3 ≠ 0 then e3 else if k.size = 0 then 14 else if decide (l.length = 0) = false ∧ leB k (keyL l) = true then 6 else 0 := by
                rw [if_neg HKZ.out, HLE.out]; by_cases c : e3 = 0 <;> simp [c]
              have HE := Lib.hid he4
              clear he4 hxy HLZ HLE
              have hE4 : e3 = if e3 ≠ 0 then e3 else if k.size = 0 then 14 else if decide (l.length = 0) = false ∧ leB k (keyL l) = true then 6 else 0 := HE.out
              generalize e3 = e4 at *
              obtain ⟨r7, hr7⟩ : ∃ r, blobR s a3 e4 32768 = r := ⟨_, rfl⟩
              obtain ⟨m, a7, e7⟩ := r7
              have ha7 : a7 ≤ s.size := by have := blobR_at (s := s) (e := e4) 32768 ha3; rw [hr7] at this; exact this
              have hstp := PrRel.step HQ.out HRQ.out hlt (prStep_eq HB3.out hE4 hr7)
              have HSTP := Lib.hid hstp
              have HR7 := Lib.hid hr7
              clear hstp hr7 hE4 HE
              go_wp2_with fail
              refine blob_Take g s a3 e4 32768 _ hc5 ha3 (by omega) (by decide) ?_
              rw [HR7.out]
              dsimp only
              intro w7 hc7 hx7
              have hoa7 := hoa5.curP hc5 hx7
              have hxa7 := hxa5.trans hx7 (fun _ _ h => h)
              clear hoa5 hxa5 hc5 hx7
              have hW8 : w.heap.size ≤ w7.heap.size := hxa7.size
              have hlen : (l ++ [(k, m)]).length = l.length + 1 := by simp
              have HLEN := Lib.hid hlen
              clear hlen
              go_wp2_with (first
                | (at_builtin; refine wpList_append_one rfl _ _ _ (by rfl) w.heap.size 34 i0 _ 2 32 Try.underlying22 hi0 hI0 hI1 hI2 rfl (by decide) itC (.slice (some ⟨b, o, none⟩) l.length c) l (by rfl) (hoa7.alloc _) (k, m) ⟨w7.heap.size, 0, none⟩ 1 (by rfl) rfl ((Blk.new _ _ _).news rfl) (itC_one _) (by unfold maxLen; omega) (by omega) (Nat.le_trans hW8 (by simp)) ?_
                   intro g9 c9 w9 hown9 hx9 hst9
                   have hc9 := (hc7.alloc (.cells #[.string k, .string m] 34)).ext hx9 (Own.ne (hoa7.alloc (.cells #[.string k, .string m] 34)) (Blk.alloc hc7 _) (by decide))
                   have hxa9 : Ext (· = g) w w9 := (hxa7.alloc (.cells #[.string k, .string m] 34)).trans hx9 (fun b hb e => absurd ((hoa7.alloc (.cells #[.string k, .string m] 34)).lt b e).1 (Nat.not_le.2 hb))))
              go_roundw
              case rel => exact ⟨l ++ [(k, m)], some ⟨g9, 0, none⟩, c9, a7, e7, by rw [HLEN.out], by rw [HLEN.out]; exact hown9, by rw [HLEN.out]; omega, ha7, hc9, hxa9, HSTP.out⟩
              case measure => simp [sliceLen]; omega
            · have he4 : (if e3 = 0 then 6 else e3) = if e3 ≠ 0 then e3 else if k.size = 0 then 14 else if decide (l.length = 0) = false ∧ leB k (keyL l) = true then 6 else 0 := by
                rw [if_neg HKZ.out, HLE.out, hxy, show decide (l.length = 0) = false from decide_eq_false HLZ.out]; by_cases c : e3 = 0 <;> simp [c]
              have HE := Lib.hid he4
              have hxy' : x = true ∨ (x = false ∧ y = true) := by cases x <;> cases y <;> simp_all
              clear he4 hxy HLZ HLE
              rcases hxy' with rfl | ⟨rfl, rfl⟩
              all_goals
                go_wp2_with fail
                refine cursor_Fail g s a3 e3 6 w3 hc5 ?_
                intro w5 hc6 hx5
                replace hoa5 := hoa5.curP hc5 hx5
                replace hxa5 := hxa5.trans hx5 (fun _ _ h => h)
                replace hc5 := hc6
                clear hx5 hx hy d0
                have hE4 : (if e3 = 0 then 6 else e3) = if e3 ≠ 0 then e3 else if k.size = 0 then 14 else if decide (l.length = 0) = false ∧ leB k (keyL l) = true then 6 else 0 := HE.out
                generalize (if e3 = 0 then 6 else e3) = e4 at *
                obtain ⟨r7, hr7⟩ : ∃ r, blobR s a3 e4 32768 = r := ⟨_, rfl⟩
                obtain ⟨m, a7, e7⟩ := r7
                have ha7 : a7 ≤ s.size := by have := blobR_at (s := s) (e := e4) 32768 ha3; rw [hr7] at this; exact this
                have hstp := PrRel.step HQ.out HRQ.out hlt (prStep_eq HB3.out hE4 hr7)
                have HSTP := Lib.hid hstp
                have HR7 := Lib.hid hr7
                clear hstp hr7 hE4 HE
                go_wp2_with fail
                refine blob_Take g s a3 e4 32768 _ hc5 ha3 (by omega) (by decide) ?_
                rw [HR7.out]
                dsimp only
                intro w7 hc7 hx7
                have hoa7 := hoa5.curP hc5 hx7
                have hxa7 := hxa5.trans hx7 (fun _ _ h => h)
                clear hoa5 hxa5 hc5 hx7
                have hW8 : w.heap.size ≤ w7.heap.size := hxa7.size
                have hlen : (l ++ [(k, m)]).length = l.length + 1 := by simp
                have HLEN := Lib.hid hlen
                clear hlen
                go_wp2_with (first
                  | (at_builtin; refine wpList_append_one rfl _ _ _ (by rfl) w.heap.size 34 i0 _ 2 32 Try.underlying22 hi0 hI0 hI1 hI2 rfl (by decide) itC (.slice (some ⟨b, o, none⟩) l.length c) l (by rfl) (hoa7.alloc _) (k, m) ⟨w7.heap.size, 0, none⟩ 1 (by rfl) rfl ((Blk.new _ _ _).news rfl) (itC_one _) (by unfold maxLen; omega) (by omega) (Nat.le_trans hW8 (by simp)) ?_
                     intro g9 c9 w9 hown9 hx9 hst9
                     have hc9 := (hc7.alloc (.cells #[.string k, .string m] 34)).ext hx9 (Own.ne (hoa7.alloc (.cells #[.string k, .string m] 34)) (Blk.alloc hc7 _) (by decide))
                     have hxa9 : Ext (· = g) w w9 := (hxa7.alloc (.cells #[.string k, .string m] 34)).trans hx9 (fun b hb e => absurd ((hoa7.alloc (.cells #[.string k, .string m] 34)).lt b e).1 (Nat.not_le.2 hb))))
                go_roundw
                case rel => exact ⟨l ++ [(k, m)], some ⟨g9, 0, none⟩, c9, a7, e7, by rw [HLEN.out], by rw [HLEN.out]; exact hown9, by rw [HLEN.out]; omega, ha7, hc9, hxa9, HSTP.out⟩
                case measure => simp [sliceLen]; omega
      · have hlt1 : ¬ (l.length : Int) < (n : Int) := by omega
        have hlt2 : decide ((l.length : Int) < (n : Int)) = false := decide_eq_false hlt1
        rw [show n - l.length = 0 by omega, prL] at hq
        subst hq
        rw [List.append_nil] at hrq
        subst hrq
        dsimp only at HR
        rw [if_pos rfl] at HR
        go_wp2_with fail
        refine (cursor_Err g s a2 0 _ hcur).mono ?_
        rintro x w' ⟨rfl, rfl⟩
        go_wp2_with fail
        exact HR.out A c _ (Row.of_own hown) (by omega) (fun ad e => (hown.lt ad.block (by rw [e]; rfl)).1) hcur ha2 hext
    · have hez : (e2 == 0) = false := by simpa using he
      have hez2 : (e2 != 0) = true := by simpa using he
      have hr2 : r.2 = (a2, e2) := by
        rcases hrst with ⟨h, _⟩ | ⟨_, h⟩
        · exact absurd h he
        · exact h
      rw [hr2] at HR
      dsimp only at HR
      rw [if_neg he] at HR
      clear hrst hr2
      go_wp2_with fail
      refine (cursor_Err g s a2 e2 _ hcur).mono ?_
      rintro x w' ⟨rfl, rfl⟩
      go_wp2_with fail
      exact HR.out none 0 _ (Row.nil _ _) (by decide) (fun _ e => by cases e) hcur ha2 hext
end
end Go.Proofs.Ytgjiedjfplbipaa
