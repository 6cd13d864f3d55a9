/- page.items, page.slots, page.Take, page.Decode. -/
import Derived.Test.YtokjkpoegcnijaaPagePut
import Derived.Test.YtokjkpoegcnijaaBlob
namespace Go.Proofs.Ytokjkpoegcnijaa
open Go.RowKit Go.Lib
section
/-- An item that is read behind place a. -/
def itStep (s pre : ByteArray) (a : Nat) (last : ByteArray) (first : Bool) : It × Nat × Int :=
  let r := bytesR s a 0 32
  let e1 := if r.2.2 ≠ 0 then r.2.2 else if beginsR r.1 pre = false then 18 else if first = false ∧ leB r.1 last = true then 6 else 0
  let q := bytesR s r.2.1 e1 32
  ((r.1, q.1), q.2.1, q.2.2)
/-- n items behind place a. -/
def itL (s pre : ByteArray) : Nat → Nat → ByteArray → Bool → List It × Nat × Int
  | 0, a, _, _ => ([], a, 0)
  | n + 1, a, last, first =>
    let r := itStep s pre a last first
    if r.2.2 ≠ 0 then ([], r.2.1, r.2.2) else ((r.1 :: (itL s pre n r.2.1 r.1.1 false).1), (itL s pre n r.2.1 r.1.1 false).2)
def itemsR (s : ByteArray) (a : Nat) (e : Int) (pre : ByteArray) : List It × Nat × Int :=
  let c := countR s a e 8
  if c.2.2 ≠ 0 then ([], c.2.1, c.2.2) else itL s pre c.1 c.2.1 emp true
/-- Is a byte not above the last one? -/
def overS (last : Option Int) (b : Int) : Bool := match last with | some x => decide (b ≤ x) | none => false
/-- A slot that is read behind place a. -/
def slStep (s : ByteArray) (a : Nat) (last : Option Int) : Sl × Nat × Int :=
  let r := byteR s a 0
  let e1 := if r.2.2 ≠ 0 then r.2.2 else if overS last r.1 = true then 6 else 0
  let q := bytesR s r.2.1 e1 32
  ((r.1, q.1), q.2.1, q.2.2)
def slL (s : ByteArray) : Nat → Nat → Option Int → List Sl × Nat × Int
  | 0, a, _ => ([], a, 0)
  | n + 1, a, last =>
    let r := slStep s a last
    if r.2.2 ≠ 0 then ([], r.2.1, r.2.2) else ((r.1 :: (slL s n r.2.1 (some r.1.1)).1), (slL s n r.2.1 (some r.1.1)).2)
def slotsR (s : ByteArray) (a : Nat) (e : Int) : List Sl × Nat × Int :=
  let c := countR s a e 256
  if c.2.2 ≠ 0 then ([], c.2.1, c.2.2) else if c.1 = 0 then ([], c.2.1, 7) else slL s c.1 c.2.1 none
theorem itC_one (x : It) : ∀ u ∈ itC x, u.oneCell' = true := by
  intro u hu
  simp only [itC, List.mem_cons, List.not_mem_nil, or_false] at hu
  rcases hu with rfl | rfl <;> rfl
theorem slC_one (x : Sl) : ∀ u ∈ slC x, u.oneCell' = true := by
  intro u hu
  simp only [slC, List.mem_cons, List.not_mem_nil, or_false] at hu
  rcases hu with rfl | rfl <;> rfl
theorem info_it : (Try.prog.info? 58).map (fun i => (i.zero, i.size, i.bytes)) = some (some (.agg #[.string ⟨#[]⟩, .string ⟨#[]⟩]), 2, 32) := by kernel_rfl
theorem info_sl : (Try.prog.info? 29).map (fun i => (i.zero, i.size, i.bytes)) = some (some (.agg #[.int .u8 0, .string ⟨#[]⟩]), 2, 24) := by kernel_rfl
theorem Own.blkT {α : Type} {f : α → List Value} {k : Nat} {w : World} {B : Nat} {e : TypeId} {v : Value} {l : List α} (h : Own w B e k f v l) {b : Nat} (hb : v.ownBlock = some b) : ∃ cs, Blk w b e cs := by
  rcases h.2 with ⟨rfl, _⟩ | ⟨g', cap, cur, rfl, _, hh, _⟩
  · simp [Value.ownBlock] at hb
  · simp only [Value.ownBlock, Option.some.injEq] at hb
    subst hb
    exact ⟨cur, hh⟩
theorem itStep_at {s pre : ByteArray} {a : Nat} {last : ByteArray} {first : Bool} (h : a ≤ s.size) : (itStep s pre a last first).2.1 ≤ s.size := by
  unfold itStep; exact bytesR_at (bytesR_at h)
/-- The last key of some items. -/
def keyL (l : List It) : ByteArray := lastK l l.length
theorem keyL_snoc (l : List It) (x : It) : keyL (l ++ [x]) = x.1 := by unfold keyL; rw [List.length_append, List.length_singleton, lastK_succ]; simp

/-- Items are read: what is told so far, and what is left to read. -/
def ItRel (W : World) (s pre : ByteArray) (g n : Nat) (r : List It × Nat × Int) (out : Value) (w : World) : Prop :=
  ∃ (l : List It) (A : Option Addr) (c a : Nat) (e : Int), out = .slice A l.length c ∧ Own w W.heap.size 58 2 itC (.slice A l.length c) l ∧ l.length ≤ n ∧ a ≤ s.size ∧ Cur w g s a e ∧ Ext (· = g) W w ∧
    ((e = 0 ∧ ∃ q, itL s pre (n - l.length) a (keyL l) (decide (l.length = 0)) = q ∧ r = (l ++ q.1, q.2)) ∨ (e ≠ 0 ∧ r.2 = (a, e)))

theorem ItRel.step {s pre : ByteArray} {n a2 a' : Nat} {e' : Int} {l : List It} {q r : List It × Nat × Int} {x : It} (hq : itL s pre (n - l.length) a2 (keyL l) (decide (l.length = 0)) = q) (hr : r = (l ++ q.1, q.2)) (hlt : l.length < n)
    (hstep : itStep s pre a2 (keyL l) (decide (l.length = 0)) = (x, a', e')) :
    (e' = 0 ∧ ∃ q, itL s pre (n - (l ++ [x]).length) a' (keyL (l ++ [x])) (decide ((l ++ [x]).length = 0)) = q ∧ r = ((l ++ [x]) ++ q.1, q.2)) ∨ (e' ≠ 0 ∧ r.2 = (a', e')) := by
  obtain ⟨m, hm⟩ : ∃ m, n - l.length = m + 1 := ⟨n - l.length - 1, by omega⟩
  have hm2 : n - (l ++ [x]).length = m := by rw [List.length_append, List.length_singleton]; omega
  rw [hm, itL, hstep] at hq
  dsimp only at hq
  rw [hm2, keyL_snoc, show decide ((l ++ [x]).length = 0) = false by simp]
  by_cases he : e' = 0
  · rw [if_neg (by omega)] at hq
    exact .inl ⟨he, _, rfl, by rw [hr, ← hq]; simp⟩
  · rw [if_pos he] at hq
    exact .inr ⟨he, by rw [hr, ← hq]⟩
theorem itStep_eq {s pre last k m : ByteArray} {first : Bool} {a a3 a' : Nat} {e3 e4 e' : Int} (h1 : bytesR s a 0 32 = (k, a3, e3)) (h2 : e4 = if e3 ≠ 0 then e3 else if beginsR k pre = false then 18 else if first = false ∧ leB k last = true then 6 else 0)
    (h3 : bytesR s a3 e4 32 = (m, a', e')) : itStep s pre a last first = ((k, m), a', e') := by
  unfold itStep
  rw [h1]; dsimp only
  rw [← h2, h3]
theorem Own.cur {w w' : World} {B g at_ : Nat} {s : ByteArray} {e : Int} {v : Value} {l : List It} (h : Own w B 58 2 itC v l) (hc : Cur w g s at_ e) (hx : Ext (· = g) w w') : Own w' B 58 2 itC v l :=
  h.ext hx (fun b hb e => by
    obtain ⟨cs, hcs⟩ := h.blkT hb
    subst e
    exact hcs.ne hc (by decide) rfl)
def sliceLen : Value → Nat
  | .slice _ n _ => n
  | _ => 0



set_option maxHeartbeats 4000000 in
set_option maxRecDepth 100000 in
theorem page_items (g : Nat) (s : ByteArray) (a : Nat) (e : Int) (pre : ByteArray) (w : World) (h : Cur w g s a e) (ha : a ≤ s.size) (hs : s.size ≤ 140737488351232) {R : Ending → World → Prop}
    (hR : ∀ A c l w', Own w' w.heap.size 58 2 itC (.slice A l.length c) l → l.length ≤ 8 → ((itemsR s a e pre).2.2 = 0 → l = (itemsR s a e pre).1) → Cur w' g s (itemsR s a e pre).2.1 (itemsR s a e pre).2.2 → (itemsR s a e pre).2.1 ≤ s.size → Ext (· = g) w w' → R (.returned (.slice A l.length c)) w') :
    Calls Try.prog 61 #[.pointer (some ⟨g, 0, none⟩), .string pre] w R := by
  obtain ⟨i0, hi0, hz0, hz1, hz2⟩ := info_parts info_it
  have HR := Lib.hid hR
  clear hR
  go_enter Try.func61, Try.ntmps61
  go_wp2_with fail
  refine blob_Count g s a e 8 w h ha (by omega) (by decide) ?_
  have hcn := countR_le s a e 8
  have hca := countR_at (e := e) 8 ha
  obtain ⟨r, hr⟩ : ∃ r, itemsR s a e pre = r := ⟨_, rfl⟩
  rw [hr] at HR
  unfold itemsR at hr
  generalize countR s a e 8 = cr at *
  obtain ⟨n, a1, e1⟩ := cr
  dsimp only at hcn hca hr ⊢
  intro w1 hc1 hx1
  have hn0 : (0 : Int) ≤ (n : Int) := Int.natCast_nonneg _
  have hst : (e1 = 0 ∧ ∃ q, itL s pre (n - 0) a1 (keyL []) (decide (0 = 0)) = q ∧ r = ([] ++ q.1, q.2)) ∨ (e1 ≠ 0 ∧ r.2 = (a1, e1)) := by
    by_cases he : e1 = 0
    · subst he
      rw [if_neg (by decide)] at hr
      exact .inl ⟨rfl, _, rfl, by rw [← hr]; rfl⟩
    · rw [if_pos he] at hr
      exact .inr ⟨he, by rw [← hr]⟩
  clear hr h
  go_wp2_with fail
  go_loopw [6] (ItRel w s pre g n r) (fun o w' => n - sliceLen o)
  case atStart => exact ⟨[], none, 0, a1, e1, rfl, Own.nil _ _ _ _, Nat.zero_le _, hca, hc1, hx1, hst⟩
  case round =>
    obtain ⟨l, A, c, a2, e2, rfl, hown, hl, ha2, hcur, hext, hrst⟩ := hrel
    clear hc1 hx1 hst hca
    go_wp2_with fail
    refine (cursor_Err g s a2 e2 _ hcur).mono ?_
    rintro x w' ⟨rfl, rfl⟩
    by_cases he : e2 = 0
    · obtain ⟨q, hq, hrq⟩ : ∃ q, itL s pre (n - l.length) a2 (keyL l) (decide (l.length = 0)) = q ∧ r = (l ++ q.1, q.2) := by
        rcases hrst with ⟨_, h⟩ | ⟨h, _⟩
        · exact h
        · exact absurd he h
      clear hrst
      subst he
      have hl0 : (0 : Int) ≤ (l.length : Int) := Int.natCast_nonneg _
      by_cases hlt : l.length < n
      · have hlt1 : (l.length : Int) < (n : Int) := by omega
        have hlt2 : decide ((l.length : Int) < (n : Int)) = true := decide_eq_true hlt1
        obtain ⟨r3, hr3⟩ : ∃ r, bytesR s a2 0 32 = r := ⟨_, rfl⟩
        obtain ⟨k, a3, e3⟩ := r3
        have ha3 : a3 ≤ s.size := by have := bytesR_at (err := 0) (n := 32) ha2; rw [hr3] at this; exact this
        have HB3 := Lib.hid hr3
        have HQ := Lib.hid hq
        have HRQ := Lib.hid hrq
        clear hr3 hq hrq
        go_wp2_with fail
        refine cursor_Bytes g s a2 0 32 _ hcur ha2 (by omega) ?_
        rw [HB3.out]
        dsimp only
        intro w3 hc3 hx3
        have hext3 := hext.trans hx3 (fun _ _ h => h)
        have hown3 := hown.cur hcur hx3
        have hba := Blk.new w3 58 #[.string k, .string ⟨#[]⟩]
        have hca : Cur (w3.alloc (.cells #[.string k, .string ⟨#[]⟩] 58)) g s a3 e3 := Blk.alloc hc3 _
        have hoa := hown3.alloc (.cells #[.string k, .string ⟨#[]⟩] 58)
        have hxa := hext3.alloc (.cells #[.string k, .string ⟨#[]⟩] 58)
        have hnx : (Value.slice A l.length c).ownBlock ≠ some w3.heap.size := fun e => absurd (hown3.lt _ e).2 (Nat.lt_irrefl _)
        have hbw : w.heap.size ≤ w3.heap.size := hext3.size
        clear hext hown hcur hx3
        go_upto_region 5 with fail
        clear hc3 hown3 hext3
        generalize hwa : w3.alloc (.cells #[.string k, .string ⟨#[]⟩] 58) = wa at *
        generalize hbx : w3.heap.size = bx at *
        clear hwa hbx
        have q0 := hba.cell 0
        dsimp at q0
        go_wp2_with fail
        refine (strings_HasPrefix k pre wa).mono ?_
        rintro x w' ⟨rfl, nq, rfl⟩
        have hba : Blk (wa.drewN nq) bx _ _ := hba
        have hca : Cur (wa.drewN nq) g s a3 e3 := hca
        have hoa : Own (wa.drewN nq) _ _ _ _ _ _ := hoa
        have hxa : Ext (· = g) w (wa.drewN nq) := hxa.drewN nq
        clear q0
        generalize wa.drewN nq = wb at *
        have q0 := hba.cell 0
        dsimp at q0
        cases hB : beginsR k pre
        · have he4 : (if e3 = 0 then 18 else e3) = if e3 ≠ 0 then e3 else if beginsR k pre = false then 18 else if decide (l.length = 0) = false ∧ leB k (keyL l) = true then 6 else 0 := by
            rw [if_pos hB]; by_cases c : e3 = 0 <;> simp [c]
          have HE := Lib.hid he4
          clear he4 hB
          go_wp2_with fail
          refine cursor_Fail g s a3 e3 18 wb hca ?_
          intro w5 hc5 hx5
          have hba5 := hba.ext hx5 (fun e => (hba.ne hca (by decide)) e)
          have hoa5 := hoa.cur hca hx5
          have hxa5 := hxa.trans hx5 (fun _ _ h => h)
          clear hba hca hoa hxa q0 hx5
          have hE4 : (if e3 = 0 then 18 else e3) = if e3 ≠ 0 then e3 else if beginsR k pre = false then 18 else if decide (l.length = 0) = false ∧ leB k (keyL l) = true then 6 else 0 := HE.out
          generalize (if e3 = 0 then 18 else e3) = e4 at *
          obtain ⟨r7, hr7⟩ : ∃ r, bytesR s a3 e4 32 = r := ⟨_, rfl⟩
          obtain ⟨m, a7, e7⟩ := r7
          have ha7 : a7 ≤ s.size := by have := bytesR_at (err := e4) (n := 32) ha3; rw [hr7] at this; exact this
          have hstp := ItRel.step HQ.out HRQ.out hlt (itStep_eq HB3.out hE4 hr7)
          have HSTP := Lib.hid hstp
          have HR7 := Lib.hid hr7
          clear hstp hr7 hE4 HE
          go_wp2_with fail
          refine cursor_Bytes g s a3 e4 32 _ hc5 ha3 (by omega) ?_
          rw [HR7.out]
          dsimp only
          intro w7 hc7 hx7
          have hba7 := hba5.ext hx7 (fun e => (hba5.ne hc5 (by decide)) e)
          have hoa7 := hoa5.cur hc5 hx7
          have hxa7 := hxa5.trans hx7 (fun _ _ h => h)
          have hgx : bx ≠ g := hba7.ne hc7 (by decide)
          clear hba5 hoa5 hxa5 hc5 hx7
          have q1 := hba7.cell 1
          have f1 := hba7.frozen 1
          dsimp at q1
          go_upto_region 10 with fail
          have hba8 : Blk (w7.setCell ⟨bx, 1, none⟩ (.string m)) bx 58 #[.string k, .string m] := hba7.set 1 _
          have hx78 : Ext (· = bx) w7 (w7.setCell ⟨bx, 1, none⟩ (.string m)) := Ext.self w7 bx 1 _
          have hoa8 := hoa7.ext hx78 (fun b hb e => hnx (by rw [hb, e]))
          have hc8 : Cur (w7.setCell ⟨bx, 1, none⟩ (.string m)) g s a7 e7 := hc7.ext hx78 (fun e => hgx e.symm)
          have hxa8 : Ext (· = g) w (w7.setCell ⟨bx, 1, none⟩ (.string m)) := hxa7.setCell (p := ⟨bx, 1, none⟩) (fun h => absurd h (Nat.not_lt.2 hbw)) _
          clear hba7 hoa7 hc7 hxa7 q1 f1 hx78
          generalize w7.setCell ⟨bx, 1, none⟩ (.string m) = w8 at *
          have q0 := hba8.cell 0
          have q1 := hba8.cell 1
          dsimp at q0 q1
          have hW8 : w.heap.size ≤ w8.heap.size := hxa8.size
          have hlen : (l ++ [(k, m)]).length = l.length + 1 := by simp
          have HLEN := Lib.hid hlen
          clear hlen
          go_wp2_with (first
            | (at_builtin; refine wpList_append_one rfl _ _ _ (by rfl) w.heap.size 58 i0 _ 2 32 Try.underlying25 hi0 hz0 hz1 hz2 rfl (by decide) itC (.slice A l.length c) l (by rfl) (hoa8.alloc _) (k, m) ⟨w8.heap.size, 0, none⟩ 1 (by rfl) rfl ((Blk.new _ _ _).news rfl) (itC_one _) (by unfold maxLen; omega) (by omega) (Nat.le_trans hW8 (by simp)) ?_
               intro g9 c9 w9 hown9 hx9 hst9
               have hc9 := (hc8.alloc (.cells #[.string k, .string m] 58)).ext hx9 (Own.ne (hoa8.alloc (.cells #[.string k, .string m] 58)) (Blk.alloc hc8 _) (by decide))
               have hxa9 : Ext (· = g) w w9 := (hxa8.alloc (.cells #[.string k, .string m] 58)).trans hx9 (fun b hb e => absurd ((hoa8.alloc (.cells #[.string k, .string m] 58)).lt b e).1 (Nat.not_le.2 hb))))
          go_roundw
          case rel => exact ⟨l ++ [(k, m)], some ⟨g9, 0, none⟩, c9, a7, e7, by rw [HLEN.out], by rw [HLEN.out]; exact hown9, by rw [HLEN.out]; omega, ha7, hc9, hxa9, HSTP.out⟩
          case measure => simp [sliceLen]; omega
        · by_cases hlz : l.length = 0
          · have hz1 : ¬ (0 : Int) < (l.length : Int) := by omega
            have hz2 : decide ((0 : Int) < (l.length : Int)) = false := decide_eq_false hz1
            have hz3 : ¬ 0 < l.length := by omega
            have hz4 : decide (0 < l.length) = false := decide_eq_false hz3
            have he4 : e3 = if e3 ≠ 0 then e3 else if beginsR k pre = false then 18 else if decide (l.length = 0) = false ∧ leB k (keyL l) = true then 6 else 0 := by
              rw [hB, show decide (l.length = 0) = true from decide_eq_true hlz]; by_cases c : e3 = 0 <;> simp [c]
            have HE := Lib.hid he4
            clear he4 hB hlz
            go_wp2_with fail
            go_quiet (fail)
            clear hz1 hz2 hz3 hz4 q0
            have hba5 : Blk (wb.drewN nq) bx _ _ := hba
            have hc5 : Cur (wb.drewN nq) g s a3 e3 := hca
            have hoa5 : Own (wb.drewN nq) _ _ _ _ _ _ := hoa
            have hxa5 : Ext (· = g) w (wb.drewN nq) := hxa.drewN nq
            clear hba hca hoa hxa
            have hE4 : e3 = if e3 ≠ 0 then e3 else if beginsR k pre = false then 18 else if decide (l.length = 0) = false ∧ leB k (keyL l) = true then 6 else 0 := HE.out
            generalize e3 = e4 at *
            obtain ⟨r7, hr7⟩ : ∃ r, bytesR s a3 e4 32 = r := ⟨_, rfl⟩
            obtain ⟨m, a7, e7⟩ := r7
            have ha7 : a7 ≤ s.size := by have := bytesR_at (err := e4) (n := 32) ha3; rw [hr7] at this; exact this
            have hstp := ItRel.step HQ.out HRQ.out hlt (itStep_eq HB3.out hE4 hr7)
            have HSTP := Lib.hid hstp
            have HR7 := Lib.hid hr7
            clear hstp hr7 hE4 HE
            go_wp2_with fail
            refine cursor_Bytes g s a3 e4 32 _ hc5 ha3 (by omega) ?_
            rw [HR7.out]
            dsimp only
            intro w7 hc7 hx7
            have hba7 := hba5.ext hx7 (fun e => (hba5.ne hc5 (by decide)) e)
            have hoa7 := hoa5.cur hc5 hx7
            have hxa7 := hxa5.trans hx7 (fun _ _ h => h)
            have hgx : bx ≠ g := hba7.ne hc7 (by decide)
            clear hba5 hoa5 hxa5 hc5 hx7
            have q1 := hba7.cell 1
            have f1 := hba7.frozen 1
            dsimp at q1
            go_upto_region 10 with fail
            have hba8 : Blk (w7.setCell ⟨bx, 1, none⟩ (.string m)) bx 58 #[.string k, .string m] := hba7.set 1 _
            have hx78 : Ext (· = bx) w7 (w7.setCell ⟨bx, 1, none⟩ (.string m)) := Ext.self w7 bx 1 _
            have hoa8 := hoa7.ext hx78 (fun b hb e => hnx (by rw [hb, e]))
            have hc8 : Cur (w7.setCell ⟨bx, 1, none⟩ (.string m)) g s a7 e7 := hc7.ext hx78 (fun e => hgx e.symm)
            have hxa8 : Ext (· = g) w (w7.setCell ⟨bx, 1, none⟩ (.string m)) := hxa7.setCell (p := ⟨bx, 1, none⟩) (fun h => absurd h (Nat.not_lt.2 hbw)) _
            clear hba7 hoa7 hc7 hxa7 q1 f1 hx78
            generalize w7.setCell ⟨bx, 1, none⟩ (.string m) = w8 at *
            have q0 := hba8.cell 0
            have q1 := hba8.cell 1
            dsimp at q0 q1
            have hW8 : w.heap.size ≤ w8.heap.size := hxa8.size
            have hlen : (l ++ [(k, m)]).length = l.length + 1 := by simp
            have HLEN := Lib.hid hlen
            clear hlen
            go_wp2_with (first
              | (at_builtin; refine wpList_append_one rfl _ _ _ (by rfl) w.heap.size 58 i0 _ 2 32 Try.underlying25 hi0 hz0 hz1 hz2 rfl (by decide) itC (.slice A l.length c) l (by rfl) (hoa8.alloc _) (k, m) ⟨w8.heap.size, 0, none⟩ 1 (by rfl) rfl ((Blk.new _ _ _).news rfl) (itC_one _) (by unfold maxLen; omega) (by omega) (Nat.le_trans hW8 (by simp)) ?_
                 intro g9 c9 w9 hown9 hx9 hst9
                 have hc9 := (hc8.alloc (.cells #[.string k, .string m] 58)).ext hx9 (Own.ne (hoa8.alloc (.cells #[.string k, .string m] 58)) (Blk.alloc hc8 _) (by decide))
                 have hxa9 : Ext (· = g) w w9 := (hxa8.alloc (.cells #[.string k, .string m] 58)).trans hx9 (fun b hb e => absurd ((hoa8.alloc (.cells #[.string k, .string m] 58)).lt b e).1 (Nat.not_le.2 hb))))
            go_roundw
            case rel => exact ⟨l ++ [(k, m)], some ⟨g9, 0, none⟩, c9, a7, e7, by rw [HLEN.out], by rw [HLEN.out]; exact hown9, by rw [HLEN.out]; omega, ha7, hc9, hxa9, HSTP.out⟩
            case measure => simp [sliceLen]; omega
          · have hz1 : (0 : Int) < (l.length : Int) := by omega
            have hz2 : decide ((0 : Int) < (l.length : Int)) = true := decide_eq_true hz1
            have hz3 : 0 < l.length := by omega
            have hz4 : decide (0 < l.length) = true := decide_eq_true hz3
            have hjw : wrap64 ((l.length : Int) - 1) = ((l.length - 1 : Nat) : Int) := by
              have e : (l.length : Int) - 1 = ((l.length - 1 : Nat) : Int) := by omega
              rw [e]; unfold wrap64; omega
            have hjl : ((l.length - 1 : Nat) : Int) < (l.length : Int) := by omega
            have hjn : (0 : Int) ≤ ((l.length - 1 : Nat) : Int) := Int.natCast_nonneg _
            obtain ⟨b, o, hA, hb, d0, d1⟩ := (Row.of_own hoa).it (l.length - 1) (by omega)
            have hkl : keyL l = (l.getD (l.length - 1) (emp, emp)).1 := by unfold keyL lastK; rw [if_neg hlz]
            rw [← hkl] at d0
            obtain ⟨x, hx⟩ : ∃ x, Op.bytesLess k.toList (keyL l).toList = x := ⟨_, rfl⟩
            obtain ⟨y, hy⟩ : ∃ y, (k.toList == (keyL l).toList) = y := ⟨_, rfl⟩
            have hle := leB_of hx hy
            have HLE := Lib.hid hle
            have HBG := Lib.hid hB
            have HLZ := Lib.hid hlz
            clear hle hkl hB hlz
            subst hA
            cases hxy : (x || y)
            · obtain ⟨rfl, rfl⟩ : x = false ∧ y = false := by cases x <;> cases y <;> simp_all
              have he4 : e3 = if e3 ≠ 0 then e3 else if beginsR k pre = false then 18 else if decide (l.length = 0) = false ∧ leB k (keyL l) = true then 6 else 0 := by
                rw [HBG.out, HLE.out]; by_cases c : e3 = 0 <;> simp [c]
              have HE := Lib.hid he4
              clear he4 hxy HBG HLZ HLE
              go_wp2_with fail
              go_quiet (fail)
              clear hz1 hz2 hz3 hz4 q0 hx hy hjw hjl hjn d0 d1
              have hba5 : Blk (wb.drewN nq) bx _ _ := hba
              have hc5 : Cur (wb.drewN nq) g s a3 e3 := hca
              have hoa5 : Own (wb.drewN nq) _ _ _ _ _ _ := hoa
              have hxa5 : Ext (· = g) w (wb.drewN nq) := hxa.drewN nq
              clear hba hca hoa hxa
              have hE4 : e3 = if e3 ≠ 0 then e3 else if beginsR k pre = false then 18 else if decide (l.length = 0) = false ∧ leB k (keyL l) = true then 6 else 0 := HE.out
              generalize e3 = e4 at *
              obtain ⟨r7, hr7⟩ : ∃ r, bytesR s a3 e4 32 = r := ⟨_, rfl⟩
              obtain ⟨m, a7, e7⟩ := r7
              have ha7 : a7 ≤ s.size := by have := bytesR_at (err := e4) (n := 32) ha3; rw [hr7] at this; exact this
              have hstp := ItRel.step HQ.out HRQ.out hlt (itStep_eq HB3.out hE4 hr7)
              have HSTP := Lib.hid hstp
              have HR7 := Lib.hid hr7
              clear hstp hr7 hE4 HE
              go_wp2_with fail
              refine cursor_Bytes g s a3 e4 32 _ hc5 ha3 (by omega) ?_
              rw [HR7.out]
              dsimp only
              intro w7 hc7 hx7
              have hba7 := hba5.ext hx7 (fun e => (hba5.ne hc5 (by decide)) e)
              have hoa7 := hoa5.cur hc5 hx7
              have hxa7 := hxa5.trans hx7 (fun _ _ h => h)
              have hgx : bx ≠ g := hba7.ne hc7 (by decide)
              clear hba5 hoa5 hxa5 hc5 hx7
              have q1 := hba7.cell 1
              have f1 := hba7.frozen 1
              dsimp at q1
              go_upto_region 10 with fail
              have hba8 : Blk (w7.setCell ⟨bx, 1, none⟩ (.string m)) bx 58 #[.string k, .string m] := hba7.set 1 _
              have hx78 : Ext (· = bx) w7 (w7.setCell ⟨bx, 1, none⟩ (.string m)) := Ext.self w7 bx 1 _
              have hoa8 := hoa7.ext hx78 (fun b hb e => hnx (by rw [hb, e]))
              have hc8 : Cur (w7.setCell ⟨bx, 1, none⟩ (.string m)) g s a7 e7 := hc7.ext hx78 (fun e => hgx e.symm)
              have hxa8 : Ext (· = g) w (w7.setCell ⟨bx, 1, none⟩ (.string m)) := hxa7.setCell (p := ⟨bx, 1, none⟩) (fun h => absurd h (Nat.not_lt.2 hbw)) _
              clear hba7 hoa7 hc7 hxa7 q1 f1 hx78
              generalize w7.setCell ⟨bx, 1, none⟩ (.string m) = w8 at *
              have q0 := hba8.cell 0
              have q1 := hba8.cell 1
              dsimp at q0 q1
              have hW8 : w.heap.size ≤ w8.heap.size := hxa8.size
              have hlen : (l ++ [(k, m)]).length = l.length + 1 := by simp
              have HLEN := Lib.hid hlen
              clear hlen
              go_wp2_with (first
                | (at_builtin; refine wpList_append_one rfl _ _ _ (by rfl) w.heap.size 58 i0 _ 2 32 Try.underlying25 hi0 hz0 hz1 hz2 rfl (by decide) itC (.slice (some ⟨b, o, none⟩) l.length c) l (by rfl) (hoa8.alloc _) (k, m) ⟨w8.heap.size, 0, none⟩ 1 (by rfl) rfl ((Blk.new _ _ _).news rfl) (itC_one _) (by unfold maxLen; omega) (by omega) (Nat.le_trans hW8 (by simp)) ?_
                   intro g9 c9 w9 hown9 hx9 hst9
                   have hc9 := (hc8.alloc (.cells #[.string k, .string m] 58)).ext hx9 (Own.ne (hoa8.alloc (.cells #[.string k, .string m] 58)) (Blk.alloc hc8 _) (by decide))
                   have hxa9 : Ext (· = g) w w9 := (hxa8.alloc (.cells #[.string k, .string m] 58)).trans hx9 (fun b hb e => absurd ((hoa8.alloc (.cells #[.string k, .string m] 58)).lt b e).1 (Nat.not_le.2 hb))))
              go_roundw
              case rel => exact ⟨l ++ [(k, m)], some ⟨g9, 0, none⟩, c9, a7, e7, by rw [HLEN.out], by rw [HLEN.out]; exact hown9, by rw [HLEN.out]; omega, ha7, hc9, hxa9, HSTP.out⟩
              case measure => simp [sliceLen]; omega
            · have he4 : (if e3 = 0 then 6 else e3) = if e3 ≠ 0 then e3 else if beginsR k pre = false then 18 else if decide (l.length = 0) = false ∧ leB k (keyL l) = true then 6 else 0 := by
                rw [HBG.out, HLE.out, hxy, show decide (l.length = 0) = false from decide_eq_false HLZ.out]; by_cases c : e3 = 0 <;> simp [c]
              have HE := Lib.hid he4
              have hxy' : x = true ∨ (x = false ∧ y = true) := by cases x <;> cases y <;> simp_all
              clear he4 hxy HBG HLZ HLE
              rcases hxy' with rfl | ⟨rfl, rfl⟩
              all_goals
                go_wp2_with fail
                go_quiet (fail)
                clear hz1 hz2 hz3 hz4 q0 hx hy hjw hjl hjn d0 d1
                have hba : Blk (wb.drewN nq) bx _ _ := hba
                have hca : Cur (wb.drewN nq) g s a3 e3 := hca
                have hoa : Own (wb.drewN nq) _ _ _ _ _ _ := hoa
                have hxa : Ext (· = g) w (wb.drewN nq) := hxa.drewN nq
                generalize wb.drewN nq = wb2 at *
                go_wp2_with fail
                refine cursor_Fail g s a3 e3 6 wb2 hca ?_
                intro w5 hc5 hx5
                have hba5 := hba.ext hx5 (fun e => (hba.ne hca (by decide)) e)
                have hoa5 := hoa.cur hca hx5
                have hxa5 := hxa.trans hx5 (fun _ _ h => h)
                clear hba hca hoa hxa hx5
                have hE4 : (if e3 = 0 then 6 else e3) = if e3 ≠ 0 then e3 else if beginsR k pre = false then 18 else if decide (l.length = 0) = false ∧ leB k (keyL l) = true then 6 else 0 := HE.out
                generalize (if e3 = 0 then 6 else e3) = e4 at *
                obtain ⟨r7, hr7⟩ : ∃ r, bytesR s a3 e4 32 = r := ⟨_, rfl⟩
                obtain ⟨m, a7, e7⟩ := r7
                have ha7 : a7 ≤ s.size := by have := bytesR_at (err := e4) (n := 32) ha3; rw [hr7] at this; exact this
                have hstp := ItRel.step HQ.out HRQ.out hlt (itStep_eq HB3.out hE4 hr7)
                have HSTP := Lib.hid hstp
                have HR7 := Lib.hid hr7
                clear hstp hr7 hE4 HE
                go_wp2_with fail
                refine cursor_Bytes g s a3 e4 32 _ hc5 ha3 (by omega) ?_
                rw [HR7.out]
                dsimp only
                intro w7 hc7 hx7
                have hba7 := hba5.ext hx7 (fun e => (hba5.ne hc5 (by decide)) e)
                have hoa7 := hoa5.cur hc5 hx7
                have hxa7 := hxa5.trans hx7 (fun _ _ h => h)
                have hgx : bx ≠ g := hba7.ne hc7 (by decide)
                clear hba5 hoa5 hxa5 hc5 hx7
                have q1 := hba7.cell 1
                have f1 := hba7.frozen 1
                dsimp at q1
                go_upto_region 10 with fail
                have hba8 : Blk (w7.setCell ⟨bx, 1, none⟩ (.string m)) bx 58 #[.string k, .string m] := hba7.set 1 _
                have hx78 : Ext (· = bx) w7 (w7.setCell ⟨bx, 1, none⟩ (.string m)) := Ext.self w7 bx 1 _
                have hoa8 := hoa7.ext hx78 (fun b hb e => hnx (by rw [hb, e]))
                have hc8 : Cur (w7.setCell ⟨bx, 1, none⟩ (.string m)) g s a7 e7 := hc7.ext hx78 (fun e => hgx e.symm)
                have hxa8 : Ext (· = g) w (w7.setCell ⟨bx, 1, none⟩ (.string m)) := hxa7.setCell (p := ⟨bx, 1, none⟩) (fun h => absurd h (Nat.not_lt.2 hbw)) _
                clear hba7 hoa7 hc7 hxa7 q1 f1 hx78
                generalize w7.setCell ⟨bx, 1, none⟩ (.string m) = w8 at *
                have q0 := hba8.cell 0
                have q1 := hba8.cell 1
                dsimp at q0 q1
                have hW8 : w.heap.size ≤ w8.heap.size := hxa8.size
                have hlen : (l ++ [(k, m)]).length = l.length + 1 := by simp
                have HLEN := Lib.hid hlen
                clear hlen
                go_wp2_with (first
                  | (at_builtin; refine wpList_append_one rfl _ _ _ (by rfl) w.heap.size 58 i0 _ 2 32 Try.underlying25 hi0 hz0 hz1 hz2 rfl (by decide) itC (.slice (some ⟨b, o, none⟩) l.length c) l (by rfl) (hoa8.alloc _) (k, m) ⟨w8.heap.size, 0, none⟩ 1 (by rfl) rfl ((Blk.new _ _ _).news rfl) (itC_one _) (by unfold maxLen; omega) (by omega) (Nat.le_trans hW8 (by simp)) ?_
                     intro g9 c9 w9 hown9 hx9 hst9
                     have hc9 := (hc8.alloc (.cells #[.string k, .string m] 58)).ext hx9 (Own.ne (hoa8.alloc (.cells #[.string k, .string m] 58)) (Blk.alloc hc8 _) (by decide))
                     have hxa9 : Ext (· = g) w w9 := (hxa8.alloc (.cells #[.string k, .string m] 58)).trans hx9 (fun b hb e => absurd ((hoa8.alloc (.cells #[.string k, .string m] 58)).lt b e).1 (Nat.not_le.2 hb))))
                go_roundw
                case rel => exact ⟨l ++ [(k, m)], some ⟨g9, 0, none⟩, c9, a7, e7, by rw [HLEN.out], by rw [HLEN.out]; exact hown9, by rw [HLEN.out]; omega, ha7, hc9, hxa9, HSTP.out⟩
                case measure => simp [sliceLen]; omega
      · have hlt1 : ¬ (l.length : Int) < (n : Int) := by omega
        have hlt2 : decide ((l.length : Int) < (n : Int)) = false := decide_eq_false hlt1
        rw [show n - l.length = 0 by omega, itL] at hq
        subst hq
        rw [hrq] at HR
        clear hrq
        go_wp2_with fail
        exact HR.out A c l _ hown (by omega) (fun _ => by simp) hcur ha2 hext
    · have hez : (e2 == 0) = false := by simpa using he
      have hr2 : r.2 = (a2, e2) := by
        rcases hrst with ⟨h, _⟩ | ⟨_, h⟩
        · exact absurd h he
        · exact h
      rw [hr2] at HR
      clear hrst hr2
      go_wp2_with fail
      exact HR.out A c l _ hown (by omega) (fun h => absurd h he) hcur ha2 hext
end
end Go.Proofs.Ytokjkpoegcnijaa
