/- TreePages' walk. -/
import Derived.Test.YtlkjonlipnmbnaaLaw21Awake
namespace Go.Proofs.Ytlkjonlipnmbnaa
open Go.RowKit Go.Lib
section
theorem at_sb (pre : ByteArray) (l : List It) : ∀ j, j < (atR pre l).1.sl.length → 0 ≤ ((atR pre l).1.sl.getD j (0, emp)).1 ∧ ((atR pre l).1.sl.getD j (0, emp)).1 < 256 := by
  by_cases hz : checkT l = 0
  · rw [at_pg hz]; exact pg_sb _ _
  · rw [at_bad hz]; intro j hj; exact absurd hj (by simp [noP])
set_option maxHeartbeats 4000000 in
set_option maxRecDepth 100000 in
theorem law21_pages (pre : ByteArray) (l : List It) {n : Nat} (hn : l.length = n) (A : Option Addr) (c : Nat) (w : World) (h : Row w A (flat itC l)) (hlc : n ≤ c) :
    Calls Try.prog 4 #[.string pre, .slice A n c] w fun e w' => e = .returned (.bool true) ∧ Below w.heap.size w w' := by
  subst hn
  have hl0 : (0 : Int) ≤ (l.length : Int) := Int.natCast_nonneg _
  go_enter Try.func4, Try.ntmps4
  go_wp2_with fail
  refine law21_awake w ?_
  intro w1 hx
  go_wp2_with fail
  refine ref21_Great l A c w1 (h.below hx (Nat.le_refl _)) ?_
  intro z hz
  cases z
  rotate_left
  · go_wp2_with fail
    first | exact ⟨rfl, hx⟩ | (go_ret; exact ⟨rfl, hx⟩)
  have hl := hz rfl
  clear hz
  by_cases hnm : 100 < pre.size
  · have e1 : (100 : Int) < (pre.size : Int) := by omega
    have e2 : decide ((100 : Int) < (pre.size : Int)) = true := decide_eq_true e1
    go_wp2_with fail
    first | exact ⟨rfl, hx⟩ | (go_ret; exact ⟨rfl, hx⟩)
  have e1 : ¬ (100 : Int) < (pre.size : Int) := by omega
  have e2 : decide ((100 : Int) < (pre.size : Int)) = false := decide_eq_false e1
  have hp1 : pre.size ≤ 1000 := by omega
  have HL := Lib.hid hl
  have HLC := Lib.hid hlc
  have HP := Lib.hid hp1
  have hA1 := fun W hW R => tree_At pre l A c W HP.out hW (by have := HL.out; omega) HLC.out (R := R)
  have hA2 := fun W hW R => ref21_At pre l A c W HP.out hW (by have := HL.out; omega) (R := R)
  have hA3 := fun W hW R => tree_Root l A c W hW (by have := HL.out; omega) HLC.out (R := R)
  have hA4 := fun W hW R => ref21_At ⟨#[]⟩ l A c W (by decide) hW (by have := HL.out; omega) (R := R)
  have hsb := at_sb ⟨#[]⟩ l
  generalize atR pre l = r at *
  generalize atR ⟨#[]⟩ l = r0 at *
  obtain ⟨g, e⟩ := r
  obtain ⟨t, no⟩ := r0
  dsimp only at hA3 hsb
  have HSB := Lib.hid hsb
  clear hnm hl hlc hp1 hsb
  go_wp2_with fail
  clear e1 e2
  refine hA1 _ (h.below hx (Nat.le_refl _)) _ ?_
  intro B1 B2 d1 d2 w2 hr1 hr2 hs1 hs2 hb2
  dsimp only at hr1 hr2 hs1 hs2 ⊢
  have HS1 := Lib.hid hs1
  have HS2 := Lib.hid hs2
  clear hs1 hs2
  replace hx := hx.trans (hb2.mono hx.size)
  clear hb2 hA1
  go_upto_region 6 with fail
  have hq := (Below.refl w2.heap.size w2).alloc (Nat.le_refl _) (.cells #[.string g.pre, .bool g.leaf, .slice B1 g.sl.length d1, .slice B2 g.it.length d2] 27)
  have hbc := Blk.new w2 27 #[.string g.pre, .bool g.leaf, .slice B1 g.sl.length d1, .slice B2 g.it.length d2]
  replace hr1 := hr1.below hq (Nat.le_refl _)
  replace hr2 := hr2.below hq (Nat.le_refl _)
  replace hx := hx.trans (hq.mono hx.size)
  generalize w2.alloc (.cells #[.string g.pre, .bool g.leaf, .slice B1 g.sl.length d1, .slice B2 g.it.length d2] 27) = w3 at *
  generalize w2.heap.size = g5 at *
  clear hq
  go_wp2_with fail
  refine hA2 _ (h.below hx (Nat.le_refl _)) _ ?_
  intro B3 B4 d3 d4 w4 hr3 hr4 _ _ hb2
  dsimp only at hr3 hr4 ⊢
  replace hr1 := hr1.below hb2 (Nat.le_refl _)
  replace hr2 := hr2.below hb2 (Nat.le_refl _)
  replace hbc := hbc.below hb2 hbc.lt
  replace hx := hx.trans (hb2.mono hx.size)
  clear hb2 hA2
  go_upto_region 7 with fail
  have hq := (Below.refl w4.heap.size w4).alloc (Nat.le_refl _) (.cells #[.string g.pre, .bool g.leaf, .slice B3 g.sl.length d3, .slice B4 g.it.length d4] 27)
  have hbd := Blk.new w4 27 #[.string g.pre, .bool g.leaf, .slice B3 g.sl.length d3, .slice B4 g.it.length d4]
  replace hr1 := hr1.below hq (Nat.le_refl _)
  replace hr2 := hr2.below hq (Nat.le_refl _)
  replace hr3 := hr3.below hq (Nat.le_refl _)
  replace hr4 := hr4.below hq (Nat.le_refl _)
  replace hbc := hbc.below hq hbc.lt
  replace hx := hx.trans (hq.mono hx.size)
  generalize w4.alloc (.cells #[.string g.pre, .bool g.leaf, .slice B3 g.sl.length d3, .slice B4 g.it.length d4] 27) = w5 at *
  generalize w4.heap.size = g7 at *
  clear hq
  go_wp2_with fail
  refine hA3 _ (h.below hx (Nat.le_refl _)) _ ?_
  intro w6 hb2
  replace hr1 := hr1.below hb2 (Nat.le_refl _)
  replace hr2 := hr2.below hb2 (Nat.le_refl _)
  replace hr3 := hr3.below hb2 (Nat.le_refl _)
  replace hr4 := hr4.below hb2 (Nat.le_refl _)
  replace hbc := hbc.below hb2 hbc.lt
  replace hbd := hbd.below hb2 hbd.lt
  replace hx := hx.trans (hb2.mono hx.size)
  clear hb2 hA3
  obtain ⟨wm, hwm⟩ : ∃ m, (if no = 0 then (pmkR t).1 else (⟨#[]⟩ : ByteArray)) = m := ⟨_, rfl⟩
  rw [hwm]
  have HWM := Lib.hid hwm
  clear hwm
  go_wp2_with fail
  refine hA4 _ (h.below hx (Nat.le_refl _)) _ ?_
  intro B5 B6 d5 d6 w7 hr5 hr6 hs5 hs6 hb2
  dsimp only at hr5 hr6 hs5 hs6 ⊢
  replace hr1 := hr1.below hb2 (Nat.le_refl _)
  replace hr2 := hr2.below hb2 (Nat.le_refl _)
  replace hr3 := hr3.below hb2 (Nat.le_refl _)
  replace hr4 := hr4.below hb2 (Nat.le_refl _)
  replace hbc := hbc.below hb2 hbc.lt
  replace hbd := hbd.below hb2 hbd.lt
  replace hx := hx.trans (hb2.mono hx.size)
  clear hb2 hA4
  go_upto_region 9 with fail
  have hq := (Below.refl w7.heap.size w7).alloc (Nat.le_refl _) (.cells #[.string t.pre, .bool t.leaf, .slice B5 t.sl.length d5, .slice B6 t.it.length d6] 27)
  have hbe := Blk.new w7 27 #[.string t.pre, .bool t.leaf, .slice B5 t.sl.length d5, .slice B6 t.it.length d6]
  replace hr1 := hr1.below hq (Nat.le_refl _)
  replace hr2 := hr2.below hq (Nat.le_refl _)
  replace hr3 := hr3.below hq (Nat.le_refl _)
  replace hr4 := hr4.below hq (Nat.le_refl _)
  replace hr5 := hr5.below hq (Nat.le_refl _)
  replace hr6 := hr6.below hq (Nat.le_refl _)
  replace hbc := hbc.below hq hbc.lt
  replace hbd := hbd.below hq hbd.lt
  replace hx := hx.trans (hq.mono hx.size)
  generalize w7.alloc (.cells #[.string t.pre, .bool t.leaf, .slice B5 t.sl.length d5, .slice B6 t.it.length d6] 27) = w8 at *
  generalize w7.heap.size = g11 at *
  have p0 := hbe.cell 0
  have p1 := hbe.cell 1
  have p2 := hbe.cell 2
  have p3 := hbe.cell 3
  dsimp at p0 p1 p2 p3
  clear hq
  go_wp2_with fail
  refine ref20_Mark t B5 B6 d5 d6 w8 hr5 hr6 HSB.out ?_
  intro w9 hb2
  have hwm := HWM.out
  generalize (pmkR t).1 = mk at *
  generalize (pmkR t).2 = me at *
  replace hr1 := hr1.below hb2 (Nat.le_refl _)
  replace hr2 := hr2.below hb2 (Nat.le_refl _)
  replace hr3 := hr3.below hb2 (Nat.le_refl _)
  replace hr4 := hr4.below hb2 (Nat.le_refl _)
  replace hbc := hbc.below hb2 hbc.lt
  replace hbd := hbd.below hb2 hbd.lt
  replace hx := hx.trans (hb2.mono hx.size)
  clear hb2 p0 p1 p2 p3 hbe hr5 hr6 hs5 hs6
  have HWM2 := Lib.hid hwm
  clear hwm HWM
  have q0 := hbc.cell 0
  have q1 := hbc.cell 1
  have q2 := hbc.cell 2
  have q3 := hbc.cell 3
  dsimp at q0 q1 q2 q3
  have p0 := hbd.cell 0
  have p1 := hbd.cell 1
  have p2 := hbd.cell 2
  have p3 := hbd.cell 3
  dsimp at p0 p1 p2 p3
  have hck1 := fun W hW R => tree_Check l A c W hW (by have := HL.out; omega) (R := R)
  have hck2 := fun W hW R => ref21_Check l A c W hW (by have := HL.out; omega) (R := R)
  generalize checkT l = ck at *
  clear hbc hbd
  by_cases hno : no = 0
  · have hwm := HWM2.out
    rw [if_pos hno] at hwm
    have hnb : (no != 0) = false := by simpa using hno
    subst hwm
    clear hno HWM2
    go_wp2_with fail
    refine ref20_Same g g B1 B2 B3 B4 d1 d2 d3 d4 w9 hr1 hr2 hr3 hr4 (by have := HS1.out; omega) (by have := HS2.out; omega) ?_
    rw [sameR_self]
    intro w10 hb2
    replace hx := hx.trans (hb2.mono hx.size)
    clear hb2 hr1 hr2 hr3 hr4
    go_wp2_with fail
    refine hck1 _ (h.below hx (Nat.le_refl _)) _ ?_
    intro w11 hb2
    replace hx := hx.trans (hb2.mono hx.size)
    clear hb2 hck1
    go_wp2_with fail
    refine hck2 _ (h.below hx (Nat.le_refl _)) _ ?_
    intro w12 hb2
    replace hx := hx.trans (hb2.mono hx.size)
    clear hb2 hck2
    go_wp2_with fail
    first | exact ⟨rfl, hx⟩ | (go_ret; exact ⟨rfl, hx⟩)
  · have hwm := HWM2.out
    rw [if_neg hno] at hwm
    have hnb : (no != 0) = true := by simpa using hno
    subst hwm
    clear hno HWM2
    go_wp2_with fail
    refine ref20_Same g g B1 B2 B3 B4 d1 d2 d3 d4 w9 hr1 hr2 hr3 hr4 (by have := HS1.out; omega) (by have := HS2.out; omega) ?_
    rw [sameR_self]
    intro w10 hb2
    replace hx := hx.trans (hb2.mono hx.size)
    clear hb2 hr1 hr2 hr3 hr4
    go_wp2_with fail
    refine hck1 _ (h.below hx (Nat.le_refl _)) _ ?_
    intro w11 hb2
    replace hx := hx.trans (hb2.mono hx.size)
    clear hb2 hck1
    go_wp2_with fail
    refine hck2 _ (h.below hx (Nat.le_refl _)) _ ?_
    intro w12 hb2
    replace hx := hx.trans (hb2.mono hx.size)
    clear hb2 hck2
    go_wp2_with fail
    first | exact ⟨rfl, hx⟩ | (go_ret; exact ⟨rfl, hx⟩)
end
end Go.Proofs.Ytlkjonlipnmbnaa
