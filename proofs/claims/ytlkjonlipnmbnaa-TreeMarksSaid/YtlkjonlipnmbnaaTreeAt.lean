/- tree.At, tree.Root, spenceref21.At. -/
import Derived.Test.YtlkjonlipnmbnaaTreeMake
namespace Go.Proofs.Ytlkjonlipnmbnaa
open Go.RowKit Go.Lib
section
def AtRet (R : Ending → World → Prop) (w : World) (r : PgV × Int) : Prop :=
  ∀ A1 A2 c1 c2 w', Own w' w.heap.size 33 2 slC (.slice A1 r.1.sl.length c1) r.1.sl → Own w' w.heap.size 38 2 itC (.slice A2 r.1.it.length c2) r.1.it → r.1.sl.length ≤ 256 → r.1.it.length ≤ 8 → Below w.heap.size w w' → R (.returned (.tuple #[.agg #[.string r.1.pre, .bool r.1.leaf, .slice A1 r.1.sl.length c1, .slice A2 r.1.it.length c2], .int .i64 r.2])) w'
theorem pg_no {pre : ByteArray} {l : List It} (h : (pgR pre l).2 = false) : (pgR pre l).1 = noP := by
  by_cases hp : pre.size ≤ 31
  · by_cases hl : l.length ≤ 8
    · rw [pgR_leaf hp hl] at h; cases h
    · rw [pgR_node hp (by omega)] at h ⊢
      split at h
      · cases h
      · next hn => rw [if_neg hn]
  · rw [pgR_big l (by omega)]
theorem at_bad {pre : ByteArray} {l : List It} (h : checkT l ≠ 0) : atR pre l = (noP, checkT l) := by unfold atR; rw [if_pos h]
theorem at_pg {pre : ByteArray} {l : List It} (h : checkT l = 0) : atR pre l = ((pgR pre (belowR pre l)).1, if (pgR pre (belowR pre l)).2 = true then 0 else 3) := by
  unfold atR
  rw [if_neg (fun e => e h)]
  cases hz : (pgR pre (belowR pre l)).2
  · rw [if_neg (by decide), if_neg (by decide), pg_no hz]
  · rw [if_pos rfl, if_pos rfl]
theorem pg_sl (pre : ByteArray) (l : List It) : (pgR pre l).1.sl.length ≤ 256 := by
  by_cases hp : pre.size ≤ 31
  · by_cases hl : l.length ≤ 8
    · rw [pgR_leaf hp hl]; exact Nat.zero_le _
    · rw [pgR_node hp (by omega)]
      split
      · exact slots_len pre l 256
      · exact Nat.zero_le _
  · rw [pgR_big l (by omega)]; exact Nat.zero_le _
set_option maxHeartbeats 2000000 in
set_option maxRecDepth 100000 in
theorem tree_At (pre : ByteArray) (l : List It) (A : Option Addr) (c : Nat) (w : World) (hps : pre.size ≤ 1000) (h : Row w A (flat itC l)) (hl : l.length ≤ 100000) (hlc : l.length ≤ c) {R : Ending → World → Prop} (hR : AtRet R w (atR pre l)) :
    Calls Try.prog 9 #[.string pre, .slice A l.length c] w R := by
  have HR := Lib.hid hR
  clear hR
  go_enter Try.func9, Try.ntmps9
  go_upto_region 1 with fail
  have hbk := Blk.new w 27 #[.string ⟨#[]⟩, .bool false, .slice none 0 0, .slice none 0 0]
  have hx := (Below.refl w.heap.size w).alloc (Nat.le_refl _) (.cells #[.string ⟨#[]⟩, .bool false, .slice none 0 0, .slice none 0 0] 27)
  generalize w.alloc (.cells #[.string ⟨#[]⟩, .bool false, .slice none 0 0, .slice none 0 0] 27) = wa at *
  have hge : w.heap.size ≤ w.heap.size := Nat.le_refl _
  obtain ⟨g4, hg4⟩ : ∃ g, w.heap.size = g := ⟨_, rfl⟩
  rw [hg4] at hbk ⊢
  have HG4 := Lib.hid hg4
  clear hg4
  obtain ⟨z, hz⟩ : ∃ z, checkT l = z := ⟨_, rfl⟩
  go_wp2_with fail
  refine tree_Check l A c wa (h.below hx (Nat.le_refl _)) (by omega) ?_
  rw [hz]
  intro w1 hb1
  replace hbk := hbk.below hb1 hbk.lt
  replace hx := hx.trans (hb1.mono hx.size)
  clear hb1
  by_cases hzz : z = 0
  rotate_left
  · have hzb : (z != 0) = true := by simpa using hzz
    rw [at_bad (by rw [hz]; exact hzz), hz] at HR
    have q0 := hbk.cell 0
    have q1 := hbk.cell 1
    have q2 := hbk.cell 2
    have q3 := hbk.cell 3
    dsimp at q0 q1 q2 q3
    have f0 := hbk.frozen 0
    have f1 := hbk.frozen 1
    have f2 := hbk.frozen 2
    have f3 := hbk.frozen 3
    clear hzz hz
    go_wp2_with fail
    refine bodyPost_ret (v := .tuple #[.agg #[.string ⟨#[]⟩, .bool false, .slice none 0 0, .slice none 0 0], .int .i64 z]) (by simp [results, go_sem, q0, q1, q2, q3]) rfl ?_
    have hset := cellsP w1 g4 (.string ⟨#[]⟩) (.bool false) (.slice none 0 0) (.slice none 0 0)
    exact HR.out none none 0 0 _ (Own.nil _ _ _ _) (Own.nil _ _ _ _) (Nat.zero_le _) (Nat.zero_le _) (below_self hx hge hset (Nat.le_of_eq HG4.out))
  subst hzz
  have hto := checkT_ok hz
  rw [at_pg hz] at HR
  have HTO := Lib.hid hto
  clear hz hto
  go_wp2_with fail
  refine tree_below l A c pre w1 (h.below hx (Nat.le_refl _)) HTO.out hl hlc ?_
  intro A5 c5 w2 hr5 hc5 hb2
  replace hbk := hbk.below hb2 hbk.lt
  replace hx := hx.trans (hb2.mono hx.size)
  clear hb2
  have hbl := below_len pre l
  have hmk := fun R => tree_make (32 - pre.size) pre (belowR pre l) A5 c5 w2 rfl hps hr5 (by omega) hc5 (HTO.out.filter _) (fun x hx => (below_mem hx).2) (R := R)
  have hsl := pg_sl pre (belowR pre l)
  have hit := pg_it pre (belowR pre l)
  generalize pgR pre (belowR pre l) = r at *
  obtain ⟨g, ok⟩ := r
  dsimp only at HR hsl hit
  have HSL := Lib.hid hsl
  have HIT := Lib.hid hit
  generalize belowR pre l = m at *
  clear hsl hit
  have HLE := Lib.hid hx.size
  go_wp2_with fail
  refine hmk _ ?_
  intro B1 B2 d1 d2 w3 hs1 hs2 hs3 hb3
  dsimp only at hs1 hs2 hs3 ⊢
  replace hbk := hbk.below hb3 hbk.lt
  replace hx := hx.trans (hb3.mono hx.size)
  clear hb3 hmk
  generalize (if ok = true then (0 : Int) else 3) = eo at *
  have q0 := hbk.cell 0
  have q1 := hbk.cell 1
  have q2 := hbk.cell 2
  have q3 := hbk.cell 3
  dsimp at q0 q1 q2 q3
  have f0 := hbk.frozen 0
  have f1 := hbk.frozen 1
  have f2 := hbk.frozen 2
  have f3 := hbk.frozen 3
  go_wp2_with fail
  refine bodyPost_ret (v := .tuple #[.agg #[.string g.pre, .bool g.leaf, .slice B1 g.sl.length d1, .slice B2 g.it.length d2], .int .i64 eo]) (by simp [results, go_sem, q0, q1, q2, q3]) rfl ?_
  have hset := cellsP w3 g4 (.string g.pre) (.bool g.leaf) (.slice B1 g.sl.length d1) (.slice B2 g.it.length d2)
  exact HR.out B1 B2 d1 d2 _ ((hs1.ext hset (fun g e e2 => hs1.ne hbk (by decide) (by rw [e, e2]))).mono HLE.out) ((hs2.ext hset (fun g e e2 => hs2.ne hbk (by decide) (by rw [e, e2]))).mono HLE.out) HSL.out HIT.out (below_self hx hge hset (Nat.le_of_eq HG4.out))
set_option maxHeartbeats 2000000 in
set_option maxRecDepth 100000 in
theorem tree_Root (l : List It) (A : Option Addr) (c : Nat) (w : World) (h : Row w A (flat itC l)) (hl : l.length ≤ 100000) (hlc : l.length ≤ c) {R : Ending → World → Prop}
    (hR : ∀ w', Below w.heap.size w w' → R (.returned (.tuple #[.string (if (atR ⟨#[]⟩ l).2 = 0 then (pmkR (atR ⟨#[]⟩ l).1).1 else ⟨#[]⟩), .int .i64 (atR ⟨#[]⟩ l).2])) w') :
    Calls Try.prog 12 #[.slice A l.length c] w R := by
  have HR := Lib.hid hR
  clear hR
  have hat := fun R => tree_At ⟨#[]⟩ l A c w (by decide) h hl hlc (R := R)
  have hok : (atR ⟨#[]⟩ l).2 = 0 → (pmkR (atR ⟨#[]⟩ l).1).2 = 0 := fun e => by
    by_cases hz : checkT l = 0
    · rw [at_pg hz] at e ⊢
      dsimp only at e ⊢
      cases ho : (pgR ⟨#[]⟩ (belowR ⟨#[]⟩ l)).2
      · rw [ho, if_neg (by decide)] at e; exact absurd e (by decide)
      · exact (mark_ok (pg_right _ rfl ((checkT_ok hz).filter _) (fun x hx => (below_mem hx).2) ho)).1
    · rw [at_bad hz] at e; exact absurd e hz
  have hsb : ∀ j, j < (atR ⟨#[]⟩ l).1.sl.length → 0 ≤ ((atR ⟨#[]⟩ l).1.sl.getD j (0, emp)).1 ∧ ((atR ⟨#[]⟩ l).1.sl.getD j (0, emp)).1 < 256 := by
    by_cases hz : checkT l = 0
    · rw [at_pg hz]; exact pg_sb _ _
    · rw [at_bad hz]; intro j hj; exact absurd hj (by simp [noP])
  generalize atR ⟨#[]⟩ l = r at *
  obtain ⟨g, e⟩ := r
  dsimp only at HR hok hsb
  have HOK := Lib.hid hok
  have HSB := Lib.hid hsb
  clear hok hsb
  go_enter Try.func12, Try.ntmps12
  go_wp2_with fail
  refine hat _ ?_
  intro B1 B2 d1 d2 w3 hr1 hr2 hs1 hs2 hb3
  dsimp only at hr1 hr2 hs1 hs2 ⊢
  replace hr1 := Row.of_own hr1
  replace hr2 := Row.of_own hr2
  clear hat
  go_upto_region 2 with fail
  have hx := hb3.alloc hb3.size (.cells #[.string g.pre, .bool g.leaf, .slice B1 g.sl.length d1, .slice B2 g.it.length d2] 27)
  have hq := (Below.refl w3.heap.size w3).alloc (Nat.le_refl _) (.cells #[.string g.pre, .bool g.leaf, .slice B1 g.sl.length d1, .slice B2 g.it.length d2] 27)
  have hbc := Blk.new w3 27 #[.string g.pre, .bool g.leaf, .slice B1 g.sl.length d1, .slice B2 g.it.length d2]
  replace hr1 := hr1.below hq (Nat.le_refl _)
  replace hr2 := hr2.below hq (Nat.le_refl _)
  generalize w3.alloc (.cells #[.string g.pre, .bool g.leaf, .slice B1 g.sl.length d1, .slice B2 g.it.length d2] 27) = w4 at *
  have p0 := hbc.cell 0
  have p1 := hbc.cell 1
  have p2 := hbc.cell 2
  have p3 := hbc.cell 3
  dsimp at p0 p1 p2 p3
  generalize w3.heap.size = bz at *
  clear hbc hq hb3
  by_cases he : e = 0
  · have heb : (e != 0) = false := by simpa using he
    have hmk := HOK.out he
    rw [if_pos he] at HR
    have HMK := Lib.hid hmk
    clear hmk
    subst he
    go_wp2_with fail
    refine page_Mark g B1 B2 d1 d2 w4 hr1 hr2 (by omega) (by omega) HSB.out ?_
    rw [HMK.out]
    intro w5 hb5
    generalize (pmkR g).1 = mk at *
    go_wp2_with fail
    exact HR.out _ (hx.trans (hb5.mono hx.size))
  · have heb : (e != 0) = true := by simpa using he
    rw [if_neg he] at HR
    clear he
    go_wp2_with fail
    exact HR.out _ hx
set_option maxHeartbeats 2000000 in
set_option maxRecDepth 100000 in
theorem ref21_At (pre : ByteArray) (l : List It) (A : Option Addr) (c : Nat) (w : World) (hps : pre.size ≤ 1000) (h : Row w A (flat itC l)) (hl : l.length ≤ 100000) {R : Ending → World → Prop} (hR : AtRet R w (atR pre l)) :
    Calls Try.prog 11 #[.string pre, .slice A l.length c] w R := by
  have HR := Lib.hid hR
  clear hR
  go_enter Try.func11, Try.ntmps11
  go_upto_region 1 with fail
  have hbk := Blk.new w 27 #[.string ⟨#[]⟩, .bool false, .slice none 0 0, .slice none 0 0]
  have hx := (Below.refl w.heap.size w).alloc (Nat.le_refl _) (.cells #[.string ⟨#[]⟩, .bool false, .slice none 0 0, .slice none 0 0] 27)
  generalize w.alloc (.cells #[.string ⟨#[]⟩, .bool false, .slice none 0 0, .slice none 0 0] 27) = wa at *
  have hge : w.heap.size ≤ w.heap.size := Nat.le_refl _
  obtain ⟨g4, hg4⟩ : ∃ g, w.heap.size = g := ⟨_, rfl⟩
  rw [hg4] at hbk ⊢
  have HG4 := Lib.hid hg4
  clear hg4
  obtain ⟨z, hz⟩ : ∃ z, checkT l = z := ⟨_, rfl⟩
  go_wp2_with fail
  refine ref21_Check l A c wa (h.below hx (Nat.le_refl _)) (by omega) ?_
  rw [hz]
  intro w1 hb1
  replace hbk := hbk.below hb1 hbk.lt
  replace hx := hx.trans (hb1.mono hx.size)
  clear hb1
  by_cases hzz : z = 0
  rotate_left
  · have hzb : (z != 0) = true := by simpa using hzz
    rw [at_bad (by rw [hz]; exact hzz), hz] at HR
    have q0 := hbk.cell 0
    have q1 := hbk.cell 1
    have q2 := hbk.cell 2
    have q3 := hbk.cell 3
    dsimp at q0 q1 q2 q3
    have f0 := hbk.frozen 0
    have f1 := hbk.frozen 1
    have f2 := hbk.frozen 2
    have f3 := hbk.frozen 3
    clear hzz hz
    go_wp2_with fail
    refine bodyPost_ret (v := .tuple #[.agg #[.string ⟨#[]⟩, .bool false, .slice none 0 0, .slice none 0 0], .int .i64 z]) (by simp [results, go_sem, q0, q1, q2, q3]) rfl ?_
    have hset := cellsP w1 g4 (.string ⟨#[]⟩) (.bool false) (.slice none 0 0) (.slice none 0 0)
    exact HR.out none none 0 0 _ (Own.nil _ _ _ _) (Own.nil _ _ _ _) (Nat.zero_le _) (Nat.zero_le _) (below_self hx hge hset (Nat.le_of_eq HG4.out))
  subst hzz
  rw [at_pg hz] at HR
  clear hz
  have hpg := fun R => ref21_Page (32 - pre.size) pre l A c w1 rfl hps (h.below hx (Nat.le_refl _)) hl (R := R)
  have hsl := pg_sl pre (belowR pre l)
  have hit := pg_it pre (belowR pre l)
  have hno := fun (h : (pgR pre (belowR pre l)).2 = false) => pg_no h
  generalize pgR pre (belowR pre l) = r at *
  obtain ⟨g, ok⟩ := r
  dsimp only at HR hsl hit hno
  have HSL := Lib.hid hsl
  have HIT := Lib.hid hit
  have HNO := Lib.hid hno
  clear hsl hit hno
  have HLE := Lib.hid hx.size
  go_wp2_with fail
  refine hpg _ ?_
  intro B1 B2 d1 d2 w3 hs1 hs2 hb3
  dsimp only at hs1 hs2 ⊢
  replace hbk := hbk.below hb3 hbk.lt
  replace hx := hx.trans (hb3.mono hx.size)
  clear hb3 hpg
  go_upto_region 5 with fail
  replace hbk := hbk.alloc (.cells #[.string g.pre, .bool g.leaf, .slice B1 g.sl.length d1, .slice B2 g.it.length d2] 27)
  replace hs1 := hs1.alloc (.cells #[.string g.pre, .bool g.leaf, .slice B1 g.sl.length d1, .slice B2 g.it.length d2] 27)
  replace hs2 := hs2.alloc (.cells #[.string g.pre, .bool g.leaf, .slice B1 g.sl.length d1, .slice B2 g.it.length d2] 27)
  replace hx := hx.alloc hx.size (.cells #[.string g.pre, .bool g.leaf, .slice B1 g.sl.length d1, .slice B2 g.it.length d2] 27)
  have hbc := Blk.new w3 27 #[.string g.pre, .bool g.leaf, .slice B1 g.sl.length d1, .slice B2 g.it.length d2]
  generalize w3.alloc (.cells #[.string g.pre, .bool g.leaf, .slice B1 g.sl.length d1, .slice B2 g.it.length d2] 27) = w4 at *
  have p0 := hbc.cell 0
  have p1 := hbc.cell 1
  have p2 := hbc.cell 2
  have p3 := hbc.cell 3
  dsimp at p0 p1 p2 p3
  generalize w3.heap.size = bz at *
  have q0 := hbk.cell 0
  have q1 := hbk.cell 1
  have q2 := hbk.cell 2
  have q3 := hbk.cell 3
  dsimp at q0 q1 q2 q3
  have f0 := hbk.frozen 0
  have f1 := hbk.frozen 1
  have f2 := hbk.frozen 2
  have f3 := hbk.frozen 3
  clear hbc
  cases ok
  · have hg := HNO.out rfl
    subst hg
    go_wp2_with fail
    refine bodyPost_ret (v := .tuple #[.agg #[.string ⟨#[]⟩, .bool false, .slice none 0 0, .slice none 0 0], .int .i64 3]) (by simp [results, go_sem, q0, q1, q2, q3]) rfl ?_
    have hset := cellsP w4 g4 (.string ⟨#[]⟩) (.bool false) (.slice none 0 0) (.slice none 0 0)
    exact HR.out none none 0 0 _ (Own.nil _ _ _ _) (Own.nil _ _ _ _) (Nat.zero_le _) (Nat.zero_le _) (below_self hx hge hset (Nat.le_of_eq HG4.out))
  · go_wp2_with fail
    refine bodyPost_ret (v := .tuple #[.agg #[.string g.pre, .bool g.leaf, .slice B1 g.sl.length d1, .slice B2 g.it.length d2], .int .i64 0]) (by simp [results, go_sem, q0, q1, q2, q3]) rfl ?_
    have hset := cellsP w4 g4 (.string g.pre) (.bool g.leaf) (.slice B1 g.sl.length d1) (.slice B2 g.it.length d2)
    exact HR.out B1 B2 d1 d2 _ ((hs1.ext hset (fun g e e2 => hs1.ne hbk (by decide) (by rw [e, e2]))).mono HLE.out) ((hs2.ext hset (fun g e e2 => hs2.ne hbk (by decide) (by rw [e, e2]))).mono HLE.out) HSL.out HIT.out (below_self hx hge hset (Nat.le_of_eq HG4.out))
end
end Go.Proofs.Ytlkjonlipnmbnaa
