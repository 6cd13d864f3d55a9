/- spenceref21.Page. -/
import Derived.Test.YtlkjonlipnmbnaaTreeBelow
namespace Go.Proofs.Ytlkjonlipnmbnaa
open Go.RowKit Go.Lib
section
theorem cellsP (w : World) (r : Nat) (a b c d : Value) : Ext (· = r) w ((((w.setCell ⟨r, 0, none⟩ a).setCell ⟨r, 1, none⟩ b).setCell ⟨r, 2, none⟩ c).setCell ⟨r, 3, none⟩ d) :=
  (((Ext.self w r 0 a).setCell (p := ⟨r, 1, none⟩) (fun _ => rfl) b).setCell (p := ⟨r, 2, none⟩) (fun _ => rfl) c).setCell (p := ⟨r, 3, none⟩) (fun _ => rfl) d
theorem infoT_sl : (Try.prog.info? 33).map (fun i => (i.zero, i.size, i.bytes)) = some (some (.agg #[.int .u8 0, .string ⟨#[]⟩]), 2, 24) := by kernel_rfl
theorem pg_sb (pre : ByteArray) (l : List It) : ∀ j, j < (pgR pre l).1.sl.length → 0 ≤ ((pgR pre l).1.sl.getD j (0, emp)).1 ∧ ((pgR pre l).1.sl.getD j (0, emp)).1 < 256 := by
  by_cases hp : pre.size ≤ 31
  · by_cases hl : l.length ≤ 8
    · rw [pgR_leaf hp hl]; intro j hj; exact absurd hj (by simp)
    · rw [pgR_node hp (by omega)]
      split
      · dsimp only
        intro j hj
        have hm : (slotsT pre l 256).getD j (0, emp) ∈ slotsT pre l 256 := by rw [getD_at _ j _ hj]; exact List.getElem_mem hj
        obtain ⟨t, ht, _, he⟩ := slot_mem hm
        rw [he]
        dsimp only
        omega
      · intro j hj; exact absurd hj (by simp [noP])
  · rw [pgR_big l (by omega)]; intro j hj; exact absurd hj (by simp [noP])
theorem slT_one (x : Sl) : ∀ u ∈ slC x, u.oneCell' = true := fun u hu => by
  simp only [slC, List.mem_cons, List.not_mem_nil, or_false] at hu
  rcases hu with rfl | rfl <;> rfl
def PageRet (R : Ending → World → Prop) (w : World) (r : PgV × Bool) : Prop :=
  ∀ A1 A2 c1 c2 w', Own w' w.heap.size 33 2 slC (.slice A1 r.1.sl.length c1) r.1.sl → Own w' w.heap.size 38 2 itC (.slice A2 r.1.it.length c2) r.1.it → Below w.heap.size w w' → R (.returned (.tuple #[.agg #[.string r.1.pre, .bool r.1.leaf, .slice A1 r.1.sl.length c1, .slice A2 r.1.it.length c2], .bool r.2])) w'
set_option maxHeartbeats 8000000 in
set_option maxRecDepth 100000 in
theorem ref21_Page : ∀ (k : Nat) (pre : ByteArray) (l : List It) (A : Option Addr) (c : Nat) (w : World), 32 - pre.size = k → pre.size ≤ 1000 → Row w A (flat itC l) → l.length ≤ 100000 → ∀ {R : Ending → World → Prop}, PageRet R w (pgR pre (belowR pre l)) →
    Calls Try.prog 22 #[.string pre, .slice A l.length c] w R := by
  obtain ⟨i0, hi0, hI0, hI1, hI2⟩ := info_parts infoT_sl
  intro k
  induction k with
  | zero =>
    intro pre l A c w hk hps h hl R hR
    have hbig : 31 < pre.size := by omega
    rw [pgR_big _ hbig] at hR
    have HR := Lib.hid hR
    clear hR
    have e1 : (31 : Int) < (pre.size : Int) := by omega
    have e2 : decide ((31 : Int) < (pre.size : Int)) = true := decide_eq_true e1
    go_enter Try.func22, Try.ntmps22
    go_upto_region 1 with fail
    have hbk := Blk.new w 27 #[.string ⟨#[]⟩, .bool false, .slice none 0 0, .slice none 0 0]
    have hx := (Below.refl w.heap.size w).alloc (Nat.le_refl _) (.cells #[.string ⟨#[]⟩, .bool false, .slice none 0 0, .slice none 0 0] 27)
    generalize w.alloc (.cells #[.string ⟨#[]⟩, .bool false, .slice none 0 0, .slice none 0 0] 27) = wa at *
    have q0 := hbk.cell 0
    have q1 := hbk.cell 1
    have q2 := hbk.cell 2
    have q3 := hbk.cell 3
    have f0 := hbk.frozen 0
    have f1 := hbk.frozen 1
    have f2 := hbk.frozen 2
    have f3 := hbk.frozen 3
    dsimp at q0 q1 q2 q3
    have hge : w.heap.size ≤ w.heap.size := Nat.le_refl _
    obtain ⟨g4, hg4⟩ : ∃ g, w.heap.size = g := ⟨_, rfl⟩
    rw [hg4] at q0 q1 q2 q3 f0 f1 f2 f3 ⊢
    have HG4 := Lib.hid hg4
    clear hbig hg4 hbk
    go_wp2_with fail
    refine bodyPost_ret (v := .tuple #[.agg #[.string ⟨#[]⟩, .bool false, .slice none 0 0, .slice none 0 0], .bool false]) (by simp [results, go_sem, q0, q1, q2, q3]) rfl ?_
    have hset := cellsP wa g4 (.string ⟨#[]⟩) (.bool false) (.slice none 0 0) (.slice none 0 0)
    exact HR.out none none 0 0 _ (Own.nil _ _ _ _) (Own.nil _ _ _ _) (below_self hx hge hset (Nat.le_of_eq HG4.out))
  | succ k ih =>
    intro pre l A c w hk hps h hl R hR
    have e1 : ¬ (31 : Int) < (pre.size : Int) := by omega
    have e2 : decide ((31 : Int) < (pre.size : Int)) = false := decide_eq_false e1
    have hp31 : pre.size ≤ 31 := by omega
    have HR := Lib.hid hR
    have HK := Lib.hid hk
    have IH := Lib.hid ih
    clear hR hk ih
    go_enter Try.func22, Try.ntmps22
    go_upto_region 1 with fail
    have hbk := Blk.new w 27 #[.string ⟨#[]⟩, .bool false, .slice none 0 0, .slice none 0 0]
    have hx := (Below.refl w.heap.size w).alloc (Nat.le_refl _) (.cells #[.string ⟨#[]⟩, .bool false, .slice none 0 0, .slice none 0 0] 27)
    generalize w.alloc (.cells #[.string ⟨#[]⟩, .bool false, .slice none 0 0, .slice none 0 0] 27) = wa at *
    have hge : w.heap.size ≤ w.heap.size := Nat.le_refl _
    obtain ⟨g4, hg4⟩ : ∃ g, w.heap.size = g := ⟨_, rfl⟩
    rw [hg4] at hbk ⊢
    have HG4 := Lib.hid hg4
    clear hg4
    go_wp2_with fail
    clear e1 e2
    refine ref21_Below l A c pre wa (h.below hx (Nat.le_refl _)) (by omega) ?_
    intro A6 c6 w1 hin hb1
    have hbk1 := hbk.below hb1 hbk.lt
    have hx1 := hx.trans (hb1.mono hx.size)
    have hil := below_len pre l
    generalize belowR pre l = m at *
    have hm0 : (0 : Int) ≤ (m.length : Int) := Int.natCast_nonneg _
    have HLE := Lib.hid hx.size
    clear hb1 hbk hx h
    by_cases h8 : m.length ≤ 8
    · have e1 : (m.length : Int) ≤ 8 := by omega
      have e2 : decide ((m.length : Int) ≤ 8) = true := decide_eq_true e1
      have hr := HR.out
      rw [pgR_leaf hp31 h8] at hr
      replace HR := Lib.hid hr
      have q0 := hbk1.cell 0
      have q1 := hbk1.cell 1
      have q2 := hbk1.cell 2
      have q3 := hbk1.cell 3
      have f0 := hbk1.frozen 0
      have f1 := hbk1.frozen 1
      have f2 := hbk1.frozen 2
      have f3 := hbk1.frozen 3
      dsimp at q0 q1 q2 q3
      clear h8 hr
      go_wp2_with fail
      refine bodyPost_ret (v := .tuple #[.agg #[.string pre, .bool true, .slice none 0 0, .slice A6 m.length c6], .bool true]) (by simp [results, go_sem, q0, q1, q2, q3]) rfl ?_
      have hset := cellsP w1 g4 (.string pre) (.bool true) (.slice none 0 0) (.slice A6 m.length c6)
      have hne := hin.ne hbk1 (by decide)
      exact HR.out none A6 0 c6 _ (Own.nil _ _ _ _) ((hin.ext hset (fun g e e2 => hne (by rw [e, e2]))).mono HLE.out) (below_self hx1 hge hset (Nat.le_of_eq HG4.out))
    · have e1 : ¬ (m.length : Int) ≤ 8 := by omega
      have e2 : decide ((m.length : Int) ≤ 8) = false := decide_eq_false e1
      have hr := HR.out
      rw [pgR_node hp31 (by omega)] at hr
      replace HR := Lib.hid hr
      clear hr h8
      go_upto_region 7 with fail
      clear e1 e2
      have hx2 := hx1.alloc hx1.size (.cells #[.string pre, .bool false, .slice none 0 0, .slice none 0 0] 27)
      have hb7 := Blk.new w1 27 #[.string pre, .bool false, .slice none 0 0, .slice none 0 0]
      have hbk2 := hbk1.alloc (.cells #[.string pre, .bool false, .slice none 0 0, .slice none 0 0] 27)
      have hin2 := hin.alloc (.cells #[.string pre, .bool false, .slice none 0 0, .slice none 0 0] 27)
      have h74 : g4 ≠ w1.heap.size := fun e => by have := hbk1.lt; omega
      have hle7 : w.heap.size ≤ w1.heap.size := hx1.size
      generalize w1.alloc (.cells #[.string pre, .bool false, .slice none 0 0, .slice none 0 0] 27) = w2 at *
      generalize w1.heap.size = g7 at *
      clear hbk1 hx1 hin
      go_wp2_with fail
      go_loopw [8] (fun i wx => ∃ (b : Nat) (A7 : Option Addr) (c7 : Nat), i = .int .i64 (b : Int) ∧ b ≤ 256 ∧ Blk wx g7 27 #[.string pre, .bool false, .slice A7 (slotsT pre m b).length c7, .slice none 0 0] ∧ Own wx w.heap.size 33 2 slC (.slice A7 (slotsT pre m b).length c7) (slotsT pre m b) ∧ Blk wx g4 27 #[.string ⟨#[]⟩, .bool false, .slice none 0 0, .slice none 0 0] ∧ Own wx wa.heap.size 38 2 itC (.slice A6 m.length c6) m ∧ Hid (allOk pre m b = true) ∧ Below w.heap.size w wx) (fun i _ => 256 - (RowKit.intOf i).toNat)
      case atStart => exact ⟨0, none, 0, rfl, by decide, hb7, Own.nil _ _ _ _, hbk2, hin2, Lib.hid rfl, hx2⟩
      case round =>
        clear hb7 hbk2 hin2 hx2
        obtain ⟨b, A7, c7, rfl, hb, hb7, hown, hb4, hin, HOK, hx⟩ := hrel
        have hb0 : (0 : Int) ≤ (b : Int) := Int.natCast_nonneg _
        by_cases hlt : b < 256
        · have hj1 : (b : Int) < 256 := by omega
          have hjd : decide ((b : Int) < 256) = true := decide_eq_true hj1
          have hcv := run_string_one (P := Try.prog) 34 9 5 Try.underlying34 Try.underlying5 Try.underlying9 (b : Int) wr
          have hsl := slotsT_succ pre m b
          have hal := allOk_succ pre m b
          have hno := fun (h : okT pre m b = false) => allOk_no (pre := pre) (l := m) (n := 256) hlt h
          unfold slotT at hsl
          unfold okT at hal hno
          have hkl : (kid pre m b).length ≤ m.length := below_len _ _
          have hki : belowR (nextP pre b) (kid pre m b) = kid pre m b := below_below _ _
          have hkd : belowR (nextP pre b) m = kid pre m b := rfl
          have HSL := Lib.hid hsl
          have HAL := Lib.hid hal
          have HNO := Lib.hid hno
          have HKI := Lib.hid hki
          have HKD := Lib.hid hkd
          have hsz9 : pre.size + 1 ≤ 9223372036854775807 := by omega
          have hsz8 : ¬ 9223372036854775807 < pre.size + 1 := by omega
          clear hsl hal hno hki hkd
          go_upto_region 11 with fail
          clear hcv
          have hx3 := hx.alloc hx.size (.cells #[.int .u8 (b : Int)] 5)
          replace hown := hown.alloc (.cells #[.int .u8 (b : Int)] 5)
          replace hb7 := hb7.alloc (.cells #[.int .u8 (b : Int)] 5)
          replace hb4 := hb4.alloc (.cells #[.int .u8 (b : Int)] 5)
          replace hin := hin.alloc (.cells #[.int .u8 (b : Int)] 5)
          generalize wr.alloc (.cells #[.int .u8 (b : Int)] 5) = w3 at *
          have hnp : pre ++ (⟨#[UInt8.ofNat b]⟩ : ByteArray) = nextP pre b := rfl
          rw [hnp]
          clear hx hnp hsz9 hsz8
          have hns := nextP_size pre b
          generalize nextP pre b = nx at *
          go_wp2_with fail
          refine ref21_Below m A6 c6 nx w3 (Row.of_own hin) (by omega) ?_
          rw [HKD.out]
          intro A10 c10 w4 hkd4 hb4x
          have hx4 := hx3.trans (hb4x.mono hx3.size)
          replace hown := hown.below hb4x
          replace hin := hin.below hb4x
          replace hb7 := hb7.below hb4x hb7.lt
          replace hb4 := hb4.below hb4x hb4.lt
          clear hb4x hx3
          obtain ⟨kd, hkdE⟩ : ∃ kd, kid pre m b = kd := ⟨_, rfl⟩
          rw [hkdE] at hkd4 hkl ⊢
          have hsl := HSL.out
          have hal := HAL.out
          have hno := HNO.out
          have hki := HKI.out
          rw [hkdE] at hsl hal hno hki
          replace HSL := Lib.hid hsl
          replace HAL := Lib.hid hal
          replace HNO := Lib.hid hno
          replace HKI := Lib.hid hki
          have hk0 : (0 : Int) ≤ (kd.length : Int) := Int.natCast_nonneg _
          clear hsl hal hno hki hkdE HKD
          cases hkc : kd with
          | nil =>
            subst hkc
            have hsl := HSL.out
            have hal := HAL.out
            simp only [List.isEmpty_nil, if_true, Option.toList_none, List.append_nil] at hsl
            simp only [List.isEmpty_nil, Bool.true_or, Bool.and_true] at hal
            have HSL2 := Lib.hid hsl
            have HOK2 := Lib.hid (hal.trans HOK.out)
            clear hsl hal HSL HAL HNO HKI
            go_wp2_with fail
            go_roundw
            case rel => exact ⟨b + 1, A7, c7, by go_num, by omega, by rw [HSL2.out]; exact hb7, by rw [HSL2.out]; exact hown, hb4, hin, HOK2, hx4⟩
            case measure => simp [RowKit.intOf]; omega
          | cons x r =>
            have hke : kd.isEmpty = false := by rw [hkc]; rfl
            have hkz : ((kd.length : Int) == 0) = false := by rw [hkc]; simp; omega
            rw [← hkc]
            have hsl := HSL.out
            have hal := HAL.out
            have hno := HNO.out
            rw [hke] at hsl hal hno
            simp only [Bool.false_eq_true, if_false, Option.toList_some, Bool.false_or] at hsl hal hno
            replace HSL := Lib.hid hsl
            replace HAL := Lib.hid hal
            replace HNO := Lib.hid hno
            clear hsl hal hno hke hkc
            go_wp2_with fail
            clear hkz
            refine IH.out nx kd A10 c10 w4 (by have := HK.out; omega) (by omega) (Row.of_own hkd4) (by omega) ?_
            rw [HKI.out]
            have hsb := pg_sb nx kd
            obtain ⟨⟨g, ok⟩, hg⟩ : ∃ g, pgR nx kd = g := ⟨_, rfl⟩
            have hsl := HSL.out
            have hal := HAL.out
            have hno := HNO.out
            rw [hg] at hsl hal hno hsb ⊢
            dsimp only at hsl hal hno hsb
            have HSB := Lib.hid hsb
            clear hsb
            replace HSL := Lib.hid hsl
            replace HAL := Lib.hid hal
            replace HNO := Lib.hid hno
            clear hsl hal hno hg HKI
            intro B1 B2 d1 d2 w5 hs1 hs2 hb5
            dsimp only at hs1 hs2 ⊢
            have hr1 := Row.of_own hs1
            have hr2 := Row.of_own hs2
            clear hs1 hs2
            have hx5 := hx4.trans (hb5.mono hx4.size)
            replace hown := hown.below hb5
            replace hin := hin.below hb5
            replace hb7 := hb7.below hb5 hb7.lt
            replace hb4 := hb4.below hb5 hb4.lt
            clear hx4 hb5 hkd4
            cases ok
            · have hr := HR.out
              rw [HNO.out rfl, if_neg (by decide)] at hr
              replace HR := Lib.hid hr
              go_upto_region 14 with fail
              have hx6 := hx5.alloc hx5.size (.cells #[.string g.pre, .bool g.leaf, .slice B1 g.sl.length d1, .slice B2 g.it.length d2] 27)
              replace hb4 := hb4.alloc (.cells #[.string g.pre, .bool g.leaf, .slice B1 g.sl.length d1, .slice B2 g.it.length d2] 27)
              clear hx5 hr1 hr2 hown hin hb7 hr
              generalize w5.alloc (.cells #[.string g.pre, .bool g.leaf, .slice B1 g.sl.length d1, .slice B2 g.it.length d2] 27) = w6 at *
              have q0 := hb4.cell 0
              have q1 := hb4.cell 1
              have q2 := hb4.cell 2
              have q3 := hb4.cell 3
              have f0 := hb4.frozen 0
              have f1 := hb4.frozen 1
              have f2 := hb4.frozen 2
              have f3 := hb4.frozen 3
              dsimp at q0 q1 q2 q3
              go_wp2_with fail
              refine bodyPost_ret (v := .tuple #[.agg #[.string ⟨#[]⟩, .bool false, .slice none 0 0, .slice none 0 0], .bool false]) (by simp [results, go_sem, q0, q1, q2, q3]) rfl ?_
              have hset := cellsP w6 g4 (.string ⟨#[]⟩) (.bool false) (.slice none 0 0) (.slice none 0 0)
              exact HR.out none none 0 0 _ (Own.nil _ _ _ _) (Own.nil _ _ _ _) (below_self hx6 hge hset (Nat.le_of_eq HG4.out))
            · go_upto_region 16 with fail
              have hq := (Below.refl w5.heap.size w5).alloc (Nat.le_refl _) (.cells #[.string g.pre, .bool g.leaf, .slice B1 g.sl.length d1, .slice B2 g.it.length d2] 27)
              have hx6 := hx5.alloc hx5.size (.cells #[.string g.pre, .bool g.leaf, .slice B1 g.sl.length d1, .slice B2 g.it.length d2] 27)
              have hbc := Blk.new w5 27 #[.string g.pre, .bool g.leaf, .slice B1 g.sl.length d1, .slice B2 g.it.length d2]
              replace hb4 := hb4.alloc (.cells #[.string g.pre, .bool g.leaf, .slice B1 g.sl.length d1, .slice B2 g.it.length d2] 27)
              replace hb7 := hb7.alloc (.cells #[.string g.pre, .bool g.leaf, .slice B1 g.sl.length d1, .slice B2 g.it.length d2] 27)
              replace hown := hown.alloc (.cells #[.string g.pre, .bool g.leaf, .slice B1 g.sl.length d1, .slice B2 g.it.length d2] 27)
              replace hin := hin.alloc (.cells #[.string g.pre, .bool g.leaf, .slice B1 g.sl.length d1, .slice B2 g.it.length d2] 27)
              replace hr1 := hr1.below hq (Nat.le_refl _)
              replace hr2 := hr2.below hq (Nat.le_refl _)
              clear hx5 hq
              generalize w5.alloc (.cells #[.string g.pre, .bool g.leaf, .slice B1 g.sl.length d1, .slice B2 g.it.length d2] 27) = w6 at *
              have p0 := hbc.cell 0
              have p1 := hbc.cell 1
              have p2 := hbc.cell 2
              have p3 := hbc.cell 3
              dsimp at p0 p1 p2 p3
              generalize w5.heap.size = bz at *
              clear hbc
              go_wp2_with fail
              refine ref20_Mark g B1 B2 d1 d2 w6 hr1 hr2 HSB.out ?_
              intro w7 hb7x
              have hsl := HSL.out
              generalize (pmkR g).1 = mk at *
              generalize (pmkR g).2 = me at *
              replace HSL := Lib.hid hsl
              have hx7 := hx6.trans (hb7x.mono hx6.size)
              replace hb4 := hb4.below hb7x hb4.lt
              replace hb7 := hb7.below hb7x hb7.lt
              replace hown := hown.below hb7x
              replace hin := hin.below hb7x
              clear hsl p0 p1 p2 p3 hr1 hr2 hb7x hx6
              have hsln := slots_len pre m b
              obtain ⟨P, hP⟩ : ∃ P, slotsT pre m b = P := ⟨_, rfl⟩
              have hsl := HSL.out
              rw [hP] at hsl hown hb7 hsln
              replace HSL := Lib.hid hsl
              clear hsl hP
              have hb7' := hb7.alloc (.cells #[.int .u8 (b : Int), .string mk] 33)
              have c0 := hb7'.cell 0
              have c1' := hb7.cell 2
              have c2 := hb7'.cell 2
              dsimp at c0 c1' c2
              have hown' := hown.alloc (.cells #[.int .u8 (b : Int), .string mk] 33)
              have hn7 := hown'.ne hb7' (by decide)
              have hpl : (P ++ [((b : Int), mk)]).length = P.length + 1 := by simp
              have HPL := Lib.hid hpl
              clear hpl
              have hal : allOk pre m (b + 1) = true := by rw [HAL.out, HOK.out]; rfl
              have HOK2 := Lib.hid hal
              have hb4' := hb4.alloc (.cells #[.int .u8 (b : Int), .string mk] 33)
              have hin' := hin.alloc (.cells #[.int .u8 (b : Int), .string mk] 33)
              clear hal HAL HNO HOK hown hin hb4
              have hPb : P.length ≤ 256 := by omega
              clear hsln
              go_wp2_with (first
                | (at_builtin; refine wpList_append_one rfl _ _ _ (by rfl) w.heap.size 33 i0 _ 2 24 Try.underlying25 hi0 hI0 hI1 hI2 rfl (by decide) slC (.slice A7 P.length c7) P (by rfl) hown' ((b : Int), mk) ⟨w7.heap.size, 0, none⟩ 1 (by rfl) rfl ((Blk.new _ _ _).news rfl) (slT_one _) (by unfold maxLen; omega) (by omega) (Nat.le_trans hx7.size (by simp)) ?_
                   intro g9 c9 w9 hown9 hx9 hst9
                   have hb79 := hb7'.ext hx9 hn7
                   have k2 := hb79.cell 2
                   have kf := hb79.frozen 2
                   dsimp at k2))
              have hx8 := hx7.alloc hx7.size (.cells #[.int .u8 (b : Int), .string mk] 33)
              have hx9b := below_ext hx8 (Nat.le_refl _) hx9 (fun b e => (hown'.lt b e).1)
              have hb49 := hb4'.ext hx9 (hown'.ne hb4' (by decide))
              have hin9 := hin'.ext hx9 (hown'.off hin' (by decide))
              have hset := Ext.self w9 g7 2 (.slice (some ⟨g9, 0, none⟩) (P.length + 1) c9)
              have hown10 := hown9.ext hset (fun g e e2 => hown9.ne hb79 (by decide) (by rw [e, e2]))
              have hin10 := hin9.ext hset (fun g e e2 => hin9.ne hb79 (by decide) (by rw [e, e2]))
              have hb410 := hb49.far (p := ⟨g7, 2, none⟩) h74 (.slice (some ⟨g9, 0, none⟩) (P.length + 1) c9)
              have hb710 := hb79.set 2 (.slice (some ⟨g9, 0, none⟩) (P.length + 1) c9)
              have hx10 := below_self hx9b (Nat.le_refl _) hset hle7
              clear hx8 hx9b hb49 hin9 hset hown9 hb79 k2 kf hx9 hst9 hb7' hb4' hown' hin' hn7 c0 c1' c2 hx7 hb7
              go_roundw
              case rel => exact ⟨b + 1, some ⟨g9, 0, none⟩, c9, by go_num, by omega, by rw [HSL.out, HPL.out]; exact hb710, by rw [HSL.out, HPL.out]; exact hown10, hb410, hin10, HOK2, hx10⟩
              case measure => simp [RowKit.intOf]; omega
        · have hbe : b = 256 := by omega
          have hj1 : ¬ (b : Int) < 256 := by omega
          have hjd : decide ((b : Int) < 256) = false := decide_eq_false hj1
          rw [hbe] at hb7 hown
          have hok := HOK.out
          rw [hbe] at hok
          have hr := HR.out
          rw [hok, if_pos rfl] at hr
          replace HR := Lib.hid hr
          clear hok hr HOK hbe
          generalize slotsT pre m 256 = P at *
          have p0 := hb7.cell 0
          have p1 := hb7.cell 1
          have p2 := hb7.cell 2
          have p3 := hb7.cell 3
          have q0 := hb4.cell 0
          have q1 := hb4.cell 1
          have q2 := hb4.cell 2
          have q3 := hb4.cell 3
          have f0 := hb4.frozen 0
          have f1 := hb4.frozen 1
          have f2 := hb4.frozen 2
          have f3 := hb4.frozen 3
          dsimp at p0 p1 p2 p3 q0 q1 q2 q3
          go_wp2_with fail
          refine bodyPost_ret (v := .tuple #[.agg #[.string pre, .bool false, .slice A7 P.length c7, .slice none 0 0], .bool true]) (by simp [results, go_sem, q0, q1, q2, q3]) rfl ?_
          have hset := cellsP wr g4 (.string pre) (.bool false) (.slice A7 P.length c7) (.slice none 0 0)
          have hne := hown.ne hb4 (by decide)
          exact HR.out A7 none c7 0 _ (hown.ext hset (fun g e e2 => hne (by rw [e, e2]))) (Own.nil _ _ _ _) (below_self hx hge hset (Nat.le_of_eq HG4.out))
end
end Go.Proofs.Ytlkjonlipnmbnaa
