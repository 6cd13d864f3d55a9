import Derived.Deep.CutBlock
import Derived.Test.YtlkjonlipnmbnaaTreeCheck
/- tree.make. -/
namespace Go.Proofs.Ytlkjonlipnmbnaa
open Go.RowKit Go.Lib
section
set_option maxHeartbeats 1000000 in
set_option maxRecDepth 100000 in
theorem slices_Clone_It (l : List It) (A : Option Addr) (c : Nat) (w : World) (h : Row w A (flat itC l)) (hl : l.length ≤ 1000000) {R : Ending → World → Prop}
    (hR : ∀ A' c' w', Own w' w.heap.size 38 2 itC (.slice A' l.length c') l → Below w.heap.size w w' → R (.returned (.slice A' l.length c')) w') :
    Calls Try.prog 37 #[.slice A l.length c] w R := by
  obtain ⟨i0, hi0, hI0, hI1, hI2⟩ := info_parts infoT_it
  have HR := Lib.hid hR
  clear hR
  have hq : ∀ (W : World) (a : Option Addr) (n c n' c' : Nat), (binOp .eql 22 (.slice a n c) (.slice none n' c')).run Try.prog W = .ok (.bool a.isNone) W := fun W a n c n' c' => Go.Lib.run_eql_slice_nil W _ _ a n c n' c' Try.underlying22
  cases A with
  | none =>
    have hln : l = [] := by
      rcases h with h | ⟨_, _, h, _⟩
      · cases l with
        | nil => rfl
        | cons x l => simp [flat, itC] at h
      · cases h
    subst hln
    go_enter Try.func37, Try.ntmps37
    go_wp2_with fail
    exact HR.out none 0 _ (Own.nil _ _ _ _) (Below.refl _ _)
  | some ad =>
    go_enter Try.func37, Try.ntmps37
    go_wp2_with (first
      | (at_builtin; refine wpList_append_list rfl _ _ _ (by rfl) w.heap.size 38 i0 _ 2 32 Try.underlying22 hi0 hI0 hI1 hI2 rfl (by decide) itC itC_len itT_one (.slice (some ⟨w.heap.size, 0, none⟩) 0 0) [] l (by rfl) (World.ownsRow_made w #[] 0 (Nat.le_refl _) (Nat.zero_le _) rfl) (some ad) c (by rfl) (h.alloc _) (by simp only [List.length_nil]; unfold maxLen; omega) (by simp only [List.length_nil]; omega) (by simp) ?_
         intro A9 c9 w9 hown9 hx9 hst9))
    rw [List.nil_append] at hown9
    exact HR.out A9 c9 w9 hown9 (below_ext ((Below.refl w.heap.size w).alloc (Nat.le_refl _) _) (Nat.le_refl _) hx9 (fun b e => by simp [Value.ownBlock] at e; omega))
theorem run_string_at (W : World) (g : Nat) (b : Int) (h : W.cell? ⟨g, 0, none⟩ = some (.int .u8 b)) :
    (convert 34 9 (.slice (some ⟨g, 0, none⟩) 1 1)).run Try.prog W = .ok (.string ⟨#[UInt8.ofNat b.toNat]⟩) W := by
  rw [run_convert_bytes_arg W 34 5 Try.underlying34 Try.underlying5 g 0 1 1 [b] rfl (fun i hi => ?_) 9 Try.underlying9]
  · rfl
  · obtain rfl : i = 0 := by omega
    exact h
theorem run_split {f : It → Nat} {r F G : List It} {n bv : Nat} (hr : r = F ++ G) (hF : ∀ x ∈ F, f x = bv) (hG : ∀ x ∈ G, f x ≠ bv) (hn : n ≤ r.length) (h1 : ∀ u, u < n → f (r.getD u (emp, emp)) = bv)
    (h2 : n < r.length → f (r.getD n (emp, emp)) ≠ bv) : r.take n = F ∧ r.drop n = G := by
  have hlen : r.length = F.length + G.length := by rw [hr, List.length_append]
  have hnF : n = F.length := by
    rcases Nat.lt_trichotomy n F.length with h | h | h
    · exfalso
      refine h2 (by omega) (hF _ ?_)
      rw [getD_at r n _ (by omega)]
      simp only [hr]
      rw [List.getElem_append_left h]
      exact List.getElem_mem h
    · exact h
    · exfalso
      refine hG (r.getD F.length (emp, emp)) ?_ (h1 _ h)
      rw [getD_at r F.length _ (by omega)]
      simp only [hr]
      rw [List.getElem_append_right (Nat.le_refl _)]
      exact List.getElem_mem _
  rw [hnF, hr]
  simp
theorem pg_it (pre : ByteArray) (l : List It) : (pgR pre l).1.it.length ≤ 8 := by
  by_cases hp : pre.size ≤ 31
  · by_cases hl : l.length ≤ 8
    · rw [pgR_leaf hp hl]; exact hl
    · rw [pgR_node hp (by omega)]
      split <;> exact Nat.zero_le _
  · rw [pgR_big l (by omega)]; exact Nat.zero_le _
def slLen : Value → Nat
  | .slice _ n _ => n
  | _ => 0
def MakeRet (R : Ending → World → Prop) (w : World) (r : PgV × Bool) : Prop :=
  ∀ A1 A2 c1 c2 w', Own w' w.heap.size 33 2 slC (.slice A1 r.1.sl.length c1) r.1.sl → Own w' w.heap.size 38 2 itC (.slice A2 r.1.it.length c2) r.1.it → r.1.sl.length ≤ 256 → Below w.heap.size w w' → R (.returned (.tuple #[.agg #[.string r.1.pre, .bool r.1.leaf, .slice A1 r.1.sl.length c1, .slice A2 r.1.it.length c2], .int .i64 (if r.2 = true then 0 else 3)])) w'
set_option maxHeartbeats 8000000 in
set_option maxRecDepth 100000 in
theorem tree_make : ∀ (k : Nat) (pre : ByteArray) (l : List It) (A : Option Addr) (c : Nat) (w : World), 32 - pre.size = k → pre.size ≤ 1000 → Row w A (flat itC l) → l.length ≤ 100000 → l.length ≤ c → TOk l → Beg pre l → ∀ {R : Ending → World → Prop}, MakeRet R w (pgR pre l) →
    Calls Try.prog 23 #[.string pre, .slice A l.length c] w R := by
  obtain ⟨i0, hi0, hI0, hI1, hI2⟩ := info_parts infoT_sl
  intro k
  induction k with
  | zero =>
    intro pre l A c w hk hps h hl hlc hto hbg R hR
    have hbig : 31 < pre.size := by omega
    rw [pgR_big _ hbig] at hR
    have HR := Lib.hid hR
    clear hR hto hbg
    have e1 : (31 : Int) < (pre.size : Int) := by omega
    have e2 : decide ((31 : Int) < (pre.size : Int)) = true := decide_eq_true e1
    go_enter Try.func23, Try.ntmps23
    go_upto_region 1 with fail
    have hbk := Blk.new w 27 #[.string ⟨#[]⟩, .bool false, .slice none 0 0, .slice none 0 0]
    have hx := (Below.refl w.heap.size w).alloc (Nat.le_refl _) (.cells #[.string ⟨#[]⟩, .bool false, .slice none 0 0, .slice none 0 0] 27)
    generalize w.alloc (.cells #[.string ⟨#[]⟩, .bool false, .slice none 0 0, .slice none 0 0] 27) = wa at *
    have q0 := hbk.cell 0
    have q1 := hbk.cell 1
    have q2 := hbk.cell 2
    have q3 := hbk.cell 3
    dsimp at q0 q1 q2 q3
    have f0 := hbk.frozen 0
    have f1 := hbk.frozen 1
    have f2 := hbk.frozen 2
    have f3 := hbk.frozen 3
    have hge : w.heap.size ≤ w.heap.size := Nat.le_refl _
    obtain ⟨g4, hg4⟩ : ∃ g, w.heap.size = g := ⟨_, rfl⟩
    rw [hg4] at q0 q1 q2 q3 f0 f1 f2 f3 ⊢
    have HG4 := Lib.hid hg4
    clear hbig hg4 hbk
    go_wp2_with fail
    refine bodyPost_ret (v := .tuple #[.agg #[.string ⟨#[]⟩, .bool false, .slice none 0 0, .slice none 0 0], .int .i64 3]) (by simp [results, go_sem, q0, q1, q2, q3]) rfl ?_
    have hset := cellsP wa g4 (.string ⟨#[]⟩) (.bool false) (.slice none 0 0) (.slice none 0 0)
    exact HR.out none none 0 0 _ (Own.nil _ _ _ _) (Own.nil _ _ _ _) (by decide) (below_self hx hge hset (Nat.le_of_eq HG4.out))
  | succ k ih =>
    intro pre m A c w hk hps h hl hlc hto hbg R hR
    have e1 : ¬ (31 : Int) < (pre.size : Int) := by omega
    have e2 : decide ((31 : Int) < (pre.size : Int)) = false := decide_eq_false e1
    have hp31 : pre.size ≤ 31 := by omega
    have HR := Lib.hid hR
    have HK := Lib.hid hk
    have IH := Lib.hid ih
    have HTO := Lib.hid hto
    have HBG := Lib.hid hbg
    have hm0 : (0 : Int) ≤ (m.length : Int) := Int.natCast_nonneg _
    clear hR hk ih hto hbg
    go_enter Try.func23, Try.ntmps23
    go_upto_region 1 with fail
    have hbk := Blk.new w 27 #[.string ⟨#[]⟩, .bool false, .slice none 0 0, .slice none 0 0]
    have hx := (Below.refl w.heap.size w).alloc (Nat.le_refl _) (.cells #[.string ⟨#[]⟩, .bool false, .slice none 0 0, .slice none 0 0] 27)
    generalize w.alloc (.cells #[.string ⟨#[]⟩, .bool false, .slice none 0 0, .slice none 0 0] 27) = wa at *
    have hge : w.heap.size ≤ w.heap.size := Nat.le_refl _
    obtain ⟨g4, hg4⟩ : ∃ g, w.heap.size = g := ⟨_, rfl⟩
    rw [hg4] at hbk ⊢
    have HG4 := Lib.hid hg4
    clear hg4
    go_upto_region 4 with fail
    clear e1 e2
    have hx2 := hx.alloc hx.size (.cells #[.string pre, .bool false, .slice none 0 0, .slice none 0 0] 27)
    have hb6 := Blk.new wa 27 #[.string pre, .bool false, .slice none 0 0, .slice none 0 0]
    have hb4 := hbk.alloc (.cells #[.string pre, .bool false, .slice none 0 0, .slice none 0 0] 27)
    have h64 : g4 ≠ wa.heap.size := fun e => by have := hbk.lt; omega
    have hle6 : w.heap.size ≤ wa.heap.size := hx.size
    generalize wa.alloc (.cells #[.string pre, .bool false, .slice none 0 0, .slice none 0 0] 27) = w2 at *
    generalize wa.heap.size = g6 at *
    clear hbk hx
    by_cases h8 : m.length ≤ 8
    · have e1 : (m.length : Int) ≤ 8 := by omega
      have e2 : decide ((m.length : Int) ≤ 8) = true := decide_eq_true e1
      have hr := HR.out
      rw [pgR_leaf hp31 h8] at hr
      replace HR := Lib.hid hr
      clear h8 hr
      go_wp2_with fail
      refine slices_Clone_It m A c w2 (h.below hx2 (Nat.le_refl _)) (by omega) ?_
      intro A9 c9 w3 hin hb3
      replace hb6 := hb6.below hb3 hb6.lt
      replace hb4 := hb4.below hb3 hb4.lt
      have hx3 := hx2.trans (hb3.mono hx2.size)
      clear hb3
      have p0 := hb6.cell 0
      have p1 := hb6.cell 1
      have p2 := hb6.cell 2
      have p3 := hb6.cell 3
      dsimp at p0 p1 p2 p3
      have e0 := hb6.frozen 0
      have e1 := hb6.frozen 1
      have e2 := hb6.frozen 2
      have e3 := hb6.frozen 3
      have q0 := hb4.cell 0
      have q1 := hb4.cell 1
      have q2 := hb4.cell 2
      have q3 := hb4.cell 3
      dsimp at q0 q1 q2 q3
      have f0 := hb4.frozen 0
      have f1 := hb4.frozen 1
      have f2 := hb4.frozen 2
      have f3 := hb4.frozen 3
      have hn46 : ¬ g4 = g6 := h64
      have hn64 : ¬ g6 = g4 := fun e => h64 e.symm
      go_wp2_with fail
      refine bodyPost_ret (v := .tuple #[.agg #[.string pre, .bool true, .slice none 0 0, .slice A9 m.length c9], .int .i64 0]) (by simp [results, go_sem, q0, q1, q2, q3]) rfl ?_
      have hs6 : Ext (· = g6) w3 ((w3.setCell ⟨g6, 1, none⟩ (.bool true)).setCell ⟨g6, 3, none⟩ (.slice A9 m.length c9)) := (Ext.self w3 g6 1 _).setCell (p := ⟨g6, 3, none⟩) (fun _ => rfl) _
      have hin6 := hin.ext hs6 (fun g e e2 => hin.ne hb6 (by decide) (by rw [e, e2]))
      have hb46 := hb4.ext hs6 h64
      have hx6 := below_self hx3 (Nat.le_refl _) hs6 hle6
      generalize (w3.setCell ⟨g6, 1, none⟩ (.bool true)).setCell ⟨g6, 3, none⟩ (.slice A9 m.length c9) = w6 at *
      have hset := cellsP w6 g4 (.string pre) (.bool true) (.slice none 0 0) (.slice A9 m.length c9)
      have hne := hin6.ne hb46 (by decide)
      exact HR.out none A9 0 c9 _ (Own.nil _ _ _ _) ((hin6.ext hset (fun g e e2 => hne (by rw [e, e2]))).mono hx2.size) (Nat.zero_le _) (below_self hx6 hge hset (Nat.le_of_eq HG4.out))
    · have e1 : ¬ (m.length : Int) ≤ 8 := by omega
      have e2 : decide ((m.length : Int) ≤ 8) = false := decide_eq_false e1
      have hr := HR.out
      rw [pgR_node hp31 (by omega)] at hr
      replace HR := Lib.hid hr
      clear hr h8
      have hlc0 : (0 : Int) ≤ (c : Int) := Int.natCast_nonneg _
      go_wp2_with fail
      clear e1 e2
      go_loopw [1] (fun s1 wx => ∃ (b : Nat) (r : List It) (Ar : Option Addr) (cr : Nat) (A7 : Option Addr) (c7 : Nat), s1 = .slice Ar r.length cr ∧ b ≤ 256 ∧ Hid (r = rem (byteAt pre.size) b m) ∧ r.length ≤ cr ∧ r.length ≤ 100000 ∧ Hid (Row w Ar (flat itC r)) ∧ Blk wx g6 27 #[.string pre, .bool false, .slice A7 (slotsT pre m b).length c7, .slice none 0 0] ∧ Own wx w.heap.size 33 2 slC (.slice A7 (slotsT pre m b).length c7) (slotsT pre m b) ∧ Blk wx g4 27 #[.string ⟨#[]⟩, .bool false, .slice none 0 0, .slice none 0 0] ∧ Hid (allOk pre m b = true) ∧ Below w.heap.size w wx) (fun s1 _ => slLen s1)
      case atStart => exact ⟨0, m, A, c, none, 0, rfl, by decide, Lib.hid (rem_zero _ _).symm, hlc, hl, Lib.hid h, hb6, Own.nil _ _ _ _, hb4, Lib.hid rfl, hx2⟩
      case round =>
        clear hb6 hb4 hx2
        obtain ⟨b, r, Ar, cr, A7, c7, rfl, hb, HREM, hrc, hrl, HROW, hb6, hown, hb4, HOK, hx⟩ := hrel
        have hrow := HROW.out.below hx (Nat.le_refl _)
        have hr0 : (0 : Int) ≤ (r.length : Int) := Int.natCast_nonneg _
        by_cases hz : 0 < r.length
        · have z1 : (0 : Int) < (r.length : Int) := by omega
          have z2 : decide ((0 : Int) < (r.length : Int)) = true := decide_eq_true z1
          have z3 : decide (0 < r.length) = true := decide_eq_true hz
          obtain ⟨br, o, hA, hbr, d0, d1⟩ := hrow.it 0 hz
          obtain ⟨⟨k0, m0⟩, hkm⟩ : ∃ x, r.getD 0 (emp, emp) = x := ⟨_, rfl⟩
          rw [hkm] at d0 d1
          dsimp only at d0 d1
          rw [Nat.zero_mul, Nat.add_zero] at d0 d1
          have hk32 : k0.size = 32 := by
            have hm0 : r.getD 0 (emp, emp) ∈ r := by rw [getD_at r 0 _ hz]; exact List.getElem_mem hz
            rw [hkm, HREM.out] at hm0
            exact (HTO.out.sz _ (List.mem_filter.1 hm0).1).1
          have hpk : pre.size < k0.size := by omega
          have hpk1 : (pre.size : Int) < (k0.size : Int) := by omega
          have hp0 : (0 : Int) ≤ (pre.size : Int) := Int.natCast_nonneg _
          have hbt := bt_eq k0 pre.size hpk
          subst hA
          go_upto_region 9 with fail
          have hbv : bt k0 pre.size = ((byteAt pre.size (k0, m0) : Nat) : Int) := rfl
          have hb256 := byteAt_lt pre.size (k0, m0)
          rw [hbv]
          have hup := bytes_up hp31 HTO.out HBG.out
          have hhd : b ≤ byteAt pre.size (k0, m0) ∧ (∀ t, b ≤ t → t < byteAt pre.size (k0, m0) → m.filter (fun x => decide (byteAt pre.size x = t)) = []) ∧ rem (byteAt pre.size) (byteAt pre.size (k0, m0)) m = r := by
            cases hrc2 : r with
            | nil => rw [hrc2] at hz; exact absurd hz (by simp)
            | cons x rr =>
              have hx0 : x = (k0, m0) := by rw [hrc2] at hkm; simpa using hkm
              have h1 := rem_head hup ((HREM.out.symm.trans hrc2))
              rw [hx0] at h1
              rw [hx0]
              exact h1
          have hsz : ∀ u, u < r.length → (r.getD u (emp, emp)).1.size = 32 := fun u hu => by
            have hmu : r.getD u (emp, emp) ∈ r := by rw [getD_at r u _ hu]; exact List.getElem_mem hu
            have hmu2 : r.getD u (emp, emp) ∈ rem (byteAt pre.size) b m := by rw [← HREM.out]; exact hmu
            exact (HTO.out.sz _ (List.mem_filter.1 hmu2).1).1
          have hfst : byteAt pre.size (r.getD 0 (emp, emp)) = byteAt pre.size (k0, m0) := by rw [hkm]
          generalize byteAt pre.size (k0, m0) = bv at *
          have HHD := Lib.hid hhd
          have HSZ := Lib.hid hsz
          have HFST := Lib.hid hfst
          have HUP := Lib.hid hup
          clear hbt hbv hhd hsz hfst hup d0 d1 hkm hk32 hpk hpk1
          generalize wr = wo at *
          go_upto_block 2 with fail
          go_cut [8] (fun s8 wx => ∃ n : Nat, s8 = .int .i64 (n : Int) ∧ n ≤ r.length ∧ Hid (∀ u, u < n → byteAt pre.size (r.getD u (emp, emp)) = bv) ∧ Hid (n < r.length → byteAt pre.size (r.getD n (emp, emp)) ≠ bv) ∧ Below wo.heap.size wo wx)
          case first =>
            go_wp2_with fail
            go_loopw [8, 43] (fun s8 i wx => ∃ j : Nat, i = .int .i64 (j : Int) ∧ j ≤ r.length ∧ s8 = .int .i64 (r.length : Int) ∧ Hid (∀ u, u < j → byteAt pre.size (r.getD u (emp, emp)) = bv) ∧ Below wo.heap.size wo wx) (fun _ i _ => r.length - (RowKit.intOf i).toNat)
            case atStart => exact ⟨0, rfl, Nat.zero_le _, rfl, Lib.hid (fun u h => absurd h (by omega)), Below.refl _ _⟩
            case round =>
              obtain ⟨j, rfl, hj, rfl, HB, hxi⟩ := hrel
              have hj0 : (0 : Int) ≤ (j : Int) := Int.natCast_nonneg _
              by_cases hlt : j < r.length
              · have hj1 : (j : Int) < (r.length : Int) := by omega
                have hjd : decide ((j : Int) < (r.length : Int)) = true := decide_eq_true hj1
                obtain ⟨br2, o2, hA2, _, d0, d1⟩ := (hrow.below hxi (Nat.le_refl _)).it j hlt
                cases hA2
                have hk32 := HSZ.out j hlt
                have hnx : byteAt pre.size (r.getD j (emp, emp)) = bv → ∀ u, u < j + 1 → byteAt pre.size (r.getD u (emp, emp)) = bv := fun h u hu => by
                  by_cases e : u = j
                  · rw [e]; exact h
                  · exact HB.out u (by omega)
                obtain ⟨⟨k1, m1⟩, hkm1⟩ : ∃ x, r.getD j (emp, emp) = x := ⟨_, rfl⟩
                have hbrk : byteAt pre.size (k1, m1) ≠ bv → byteAt pre.size (r.getD j (emp, emp)) ≠ bv := fun h => by rw [hkm1]; exact h
                rw [hkm1] at d0 d1 hk32 hnx
                dsimp only at d0 d1 hk32
                have hpk : pre.size < k1.size := by omega
                have hpk1 : (pre.size : Int) < (k1.size : Int) := by omega
                have hbt := bt_eq k1 pre.size hpk
                have hbv : bt k1 pre.size = ((byteAt pre.size (k1, m1) : Nat) : Int) := rfl
                rw [hbv] at hbt
                generalize byteAt pre.size (k1, m1) = bj at *
                have HNX := Lib.hid hnx
                have HBRK := Lib.hid hbrk
                clear hkm1 hnx hbrk hbv hk32
                go_upto_region 13 with fail
                have hxj := hxi.alloc hxi.size (.cells #[.string k1, .string m1] 38)
                have hba := Blk.new wr 38 #[.string k1, .string m1]
                generalize wr.alloc (.cells #[.string k1, .string m1] 38) = wb at *
                have e0 := hba.cell 0
                have e1 := hba.cell 1
                dsimp at e0 e1
                generalize wr.heap.size = bq at *
                clear d0 d1 hxi hba
                by_cases hbb : bj = bv
                · have hn1 : ((bj : Int) != (bv : Int)) = false := by simp [hbb]
                  have hn2 : (bj != bv) = false := by simp [hbb]
                  have HN := Lib.hid (HNX.out hbb)
                  clear hbb HNX HBRK
                  go_wp2_with fail
                  go_roundw
                  case rel => exact ⟨j + 1, by go_num, by omega, rfl, HN, hxj⟩
                  case measure => simp [RowKit.intOf]; omega
                · have hn1 : ((bj : Int) != (bv : Int)) = true := by simp; omega
                  have hn2 : (bj != bv) = true := by simpa using hbb
                  have HBR := Lib.hid (HBRK.out hbb)
                  clear hbb HNX HBRK
                  go_wp2_with fail
                  go_meet
                  exact ⟨j, rfl, by omega, HB, Lib.hid (fun _ => HBR.out), hxj⟩
              · have hj1 : ¬ (j : Int) < (r.length : Int) := by omega
                have hjd : decide ((j : Int) < (r.length : Int)) = false := decide_eq_false hj1
                have hje : j = r.length := by omega
                rw [hje] at HB
                clear hje
                go_wp2_with fail
                go_meet
                exact ⟨r.length, rfl, Nat.le_refl _, HB, Lib.hid (fun h => absurd h (by omega)), hxi⟩
          case rest =>
          obtain ⟨n, rfl, hn, HALL, HNE, hbw⟩ := hcut
          have hkb := kid_eq hp31 HTO.out HBG.out hb256
          have hsplit := run_split (f := byteAt pre.size) (bv := bv) (r := r) (F := kid pre m bv) (G := rem (byteAt pre.size) (bv + 1) m) (n := n) (by
            have h1 := rem_split (c := bv) HUP.out
            rw [HHD.out.2.2] at h1
            rw [hkb]; exact h1) (fun x hx => by rw [hkb] at hx; simpa using (List.mem_filter.1 hx).2) (fun x hx => by
            have := (List.mem_filter.1 hx).2
            simp at this
            omega) hn HALL.out HNE.out
          have hn1 : 0 < n := by
            rcases Nat.eq_zero_or_pos n with h0 | h0
            · exact absurd HFST.out (by have := HNE.out (by omega); rw [h0] at this; exact this)
            · exact h0
          have hsk := slotsT_skip (pre := pre) (l := m) HHD.out.1 (fun t h1 h2 => by
            have := HHD.out.2.1 t h1 h2
            rw [kid_eq hp31 HTO.out HBG.out (by omega)]; exact this)
          have hsl := slotsT_succ pre m bv
          have hal := allOk_succ pre m bv
          have hno := fun (h : okT pre m bv = false) => allOk_no (pre := pre) (l := m) (n := 256) hb256 h
          have hko := kid_ok HTO.out bv (pre := pre)
          have hkbg := kid_beg pre m bv
          have hkl : (kid pre m bv).length = n := by rw [← hsplit.1, List.length_take]; omega
          have hns := nextP_size pre bv
          have hab := hsk.2 HOK.out
          rw [hsk.1] at hsl
          rw [hab, Bool.true_and] at hal
          unfold slotT at hsl
          unfold okT at hal hno
          have hke : (kid pre m bv).isEmpty = false := by
            cases hc : kid pre m bv with
            | nil => rw [hc] at hkl; simp at hkl; omega
            | cons _ _ => rfl
          rw [hke] at hsl hal hno
          simp only [Bool.false_eq_true, if_false, Option.toList_some, Bool.false_or] at hsl hal hno
          have hrK : ∀ W, Row W (some ⟨br, o, none⟩) (flat itC r) → Row W (some ⟨br, o, none⟩) (flat itC (kid pre m bv)) := fun W hW => by
            have := hW.part 0 n
            rw [List.drop_zero, hsplit.1] at this
            simpa using this
          have hrD : ∀ W, Row W (some ⟨br, o, none⟩) (flat itC r) → Row W (some ⟨br, o + n * 2, none⟩) (flat itC (rem (byteAt pre.size) (bv + 1) m)) := fun W hW => by
            have := hW.part n (r.length - n)
            rw [List.take_of_length_le (by rw [List.length_drop]; omega), hsplit.2] at this
            exact this
          have hlD : (rem (byteAt pre.size) (bv + 1) m).length = r.length - n := by rw [← hsplit.2, List.length_drop]
          obtain ⟨Kd, hKd⟩ : ∃ K, kid pre m bv = K := ⟨_, rfl⟩
          rw [hKd] at hko hkbg hkl hsl hal hno hrK
          have HSL := Lib.hid hsl
          have HAL := Lib.hid hal
          have HNO := Lib.hid hno
          have HKO := Lib.hid hko
          have HKB := Lib.hid hkbg
          have HRK := Lib.hid hrK
          have HRD := Lib.hid hrD
          have HLD := Lib.hid hlD
          have HKL := Lib.hid hkl
          clear hkb hsplit hsk hsl hal hno hko hkbg hkl hab hke hrK hrD hlD hKd HALL HNE HHD HFST HSZ HREM HOK HUP
          have hx7 := hx.trans (hbw.mono hx.size)
          replace hb6 := hb6.below hbw hb6.lt
          replace hb4 := hb4.below hbw hb4.lt
          replace hown := hown.below hbw
          replace hrow := hrow.below hbw (Nat.le_refl _)
          clear hbw hx
          generalize wc = wp at *
          have hn0 : (0 : Int) ≤ (n : Int) := Int.natCast_nonneg _
          have hnc : (n : Int) ≤ (cr : Int) := by omega
          have hcr : ¬ cr = 0 := by omega
          have hsz9 : pre.size + 1 ≤ 9223372036854775807 := by omega
          have hsz8 : ¬ 9223372036854775807 < pre.size + 1 := by omega
          have HNS := Lib.hid hns
          clear hns
          obtain ⟨⟨g, ok⟩, hg⟩ : ∃ g, pgR (nextP pre bv) Kd = g := ⟨_, rfl⟩
          have hsb := pg_sb (nextP pre bv) Kd
          have hit := pg_it (nextP pre bv) Kd
          have hsl := HSL.out
          have hal := HAL.out
          have hno := HNO.out
          rw [hg] at hsl hal hno hsb hit
          dsimp only at hsl hal hno hsb hit
          have HIT := Lib.hid hit
          clear hit
          replace HSL := Lib.hid hsl
          replace HAL := Lib.hid hal
          replace HNO := Lib.hid hno
          have HSB := Lib.hid hsb
          have HG := Lib.hid hg
          obtain ⟨eo, heo⟩ : ∃ e : Int, (if ok = true then (0 : Int) else 3) = e := ⟨_, rfl⟩
          have HEO := Lib.hid heo
          clear hsl hal hno hsb hg heo
          have hle64 : w.heap.size ≤ wp.heap.size := hx7.size
          go_upto_region 16 with fail
          go_cut [11, 12] (fun s11 s12 wx => ∃ (gc : Nat) (B1 B2 : Option Addr) (d1 d2 : Nat), s11 = .pointer (some ⟨gc, 0, none⟩) ∧ s12 = .int .i64 eo ∧ wp.heap.size ≤ gc ∧ Blk wx gc 27 #[.string g.pre, .bool g.leaf, .slice B1 g.sl.length d1, .slice B2 g.it.length d2] ∧ Row wx B1 (flat slC g.sl) ∧ Row wx B2 (flat itC g.it) ∧ g.sl.length ≤ 256 ∧ Below wp.heap.size wp wx)
          case first =>
            refine wp_region_held_drew (S := fun _ => True) (by kernel_rfl) True.intro (fun hHeld => ?_)
            have hbw : Below wp.heap.size wp wp.drew := below_drewN (Below.refl _ _) 1
            replace hrow : Row wp.drew _ _ := hrow
            clear hx7 hb6 hb4 hown
            generalize wp.drew = wq at *
            refine held_take (i := 0) (v := ?_) rfl (by kernel_rfl) (by kernel_rfl) (by kernel_rfl) (fun _ _ _ h => h) (by rfl) (by assumption) (fun w hSw => ?_) ?_
            rotate_left
            · (try dsimp only at hSw)
              go_simp
              try with_reducible rfl
            try simp only [Act.put, List.setIfInBounds_toArray, List.set_cons_zero, List.set_cons_succ]
            refine held_take (i := 1) (v := ?_) rfl (by kernel_rfl) (by kernel_rfl) (by kernel_rfl) (fun _ _ _ h => h) (by rfl) (by assumption) (fun w hSw => ?_) ?_
            rotate_left
            · (try dsimp only at hSw)
              go_simp
              try with_reducible rfl
            try simp only [Act.put, List.setIfInBounds_toArray, List.set_cons_zero, List.set_cons_succ]
            refine held_take (i := 5) (v := ?_) rfl (by kernel_rfl) (by kernel_rfl) (by kernel_rfl) (fun _ _ _ h => h) (by rfl) (by assumption) (fun w hSw => ?_) ?_
            rotate_left
            · (try dsimp only at hSw)
              go_simp
              try with_reducible rfl
            try simp only [Act.put, List.setIfInBounds_toArray, List.set_cons_zero, List.set_cons_succ]
            refine held_take (i := 6) (v := ?_) rfl (by kernel_rfl) (by kernel_rfl) (by kernel_rfl) (fun _ _ _ h => h) (by rfl) (by assumption) (fun w hSw => ?_) ?_
            rotate_left
            · (try dsimp only at hSw)
              go_simp
              try with_reducible rfl
            try simp only [Act.put, List.setIfInBounds_toArray, List.set_cons_zero, List.set_cons_succ]
            refine held_take (i := 7) (v := ?_) rfl (by kernel_rfl) (by kernel_rfl) (by kernel_rfl) (fun _ _ _ h => h) (by rfl) (by assumption) (fun w hSw => ?_) ?_
            rotate_left
            · (try dsimp only at hSw)
              go_simp
              try with_reducible rfl
            try simp only [Act.put, List.setIfInBounds_toArray, List.set_cons_zero, List.set_cons_succ]
            refine wpAnyH_ready (rs := [2, 12]) (by kernel_rfl) (by simp) ?_
            refine held_cons (i := 2) rfl (by rfl) (fun K hK => ?_) ?_
            · go_simp
              refine hK.out _ _ True.intro (fun hHeld => ?_)
              clear hK K
              try simp only [Act.put, List.setIfInBounds_toArray, List.set_cons_zero, List.set_cons_succ]
              have hb2 := (Below.refl wq.heap.size wq).alloc (Nat.le_refl _) (.cells #[.int .u8 (bv : Int)] 5)
              have hbk := Blk.new wq 5 #[.int .u8 (bv : Int)]
              have hbb := hbw.trans (hb2.mono hbw.size)
              replace hrow := hrow.below hb2 (Nat.le_refl _)
              try replace hbc := hbc.below hb2 hbc.lt
              generalize wq.alloc (.cells #[.int .u8 (bv : Int)] 5) = wr1 at *
              have cb := hbk.cell 0
              dsimp at cb
              generalize wq.heap.size = gb at *
              clear hb2 hbk hbw
              have hbw := hbb
              clear hbb
              refine wpAnyH_ready (rs := [3, 12]) (by kernel_rfl) (by simp) ?_
              refine held_cons (i := 3) rfl (by rfl) (fun K hK => ?_) ?_
              · have hcv := run_string_at wr1 gb (bv : Int) cb
                go_simp
                refine hK.out _ _ True.intro (fun hHeld => ?_)
                clear hK K
                try simp only [Act.put, List.setIfInBounds_toArray, List.set_cons_zero, List.set_cons_succ]
                clear hcv cb
                refine held_take (i := 4) (v := ?_) rfl (by kernel_rfl) (by kernel_rfl) (by kernel_rfl) (fun _ _ _ h => h) (by rfl) (by assumption) (fun w hSw => ?_) ?_
                rotate_left
                · (try dsimp only at hSw)
                  go_simp
                  try with_reducible rfl
                try simp only [Act.put, List.setIfInBounds_toArray, List.set_cons_zero, List.set_cons_succ]
                refine wpAnyH_ready (rs := [8, 12]) (by kernel_rfl) (by simp) ?_
                refine held_cons (i := 8) rfl (by rfl) (fun K hK => ?_) ?_
                · go_simp
                  have hcall := fun R => IH.out (nextP pre bv) Kd (some ⟨br, o, none⟩) cr wr1 (by have := HK.out; have := HNS.out; omega) (by have := HNS.out; omega) (HRK.out _ hrow) (by have := HKL.out; omega) (by have := HKL.out; omega) HKO.out HKB.out (R := R)
                  rw [HKL.out, HG.out] at hcall
                  refine hcall _ ?_
                  intro B1 B2 d1 d2 wr2 hs1 hs2 hs3 hb2
                  dsimp only at hs1 hs2 hs3 ⊢
                  rw [HEO.out]
                  replace hrow := hrow.below hb2 (Nat.le_refl _)
                  try replace hbc := hbc.below hb2 hbc.lt
                  have hbb := hbw.trans (hb2.mono hbw.size)
                  refine hK.out _ _ True.intro (fun hHeld => ?_)
                  clear hK K
                  try simp only [Act.put, List.setIfInBounds_toArray, List.set_cons_zero, List.set_cons_succ]
                  clear hb2 hbw hcall
                  have hbw := hbb
                  clear hbb
                  refine held_take (i := 9) (v := ?_) rfl (by kernel_rfl) (by kernel_rfl) (by kernel_rfl) (fun _ _ _ h => h) (by rfl) (by assumption) (fun w hSw => ?_) ?_
                  rotate_left
                  · (try dsimp only at hSw)
                    go_simp
                    try with_reducible rfl
                  try simp only [Act.put, List.setIfInBounds_toArray, List.set_cons_zero, List.set_cons_succ]
                  refine held_take (i := 10) (v := ?_) rfl (by kernel_rfl) (by kernel_rfl) (by kernel_rfl) (fun _ _ _ h => h) (by rfl) (by assumption) (fun w hSw => ?_) ?_
                  rotate_left
                  · (try dsimp only at hSw)
                    go_simp
                    try with_reducible rfl
                  try simp only [Act.put, List.setIfInBounds_toArray, List.set_cons_zero, List.set_cons_succ]
                  refine held_take (i := 11) (v := ?_) rfl (by kernel_rfl) (by kernel_rfl) (by kernel_rfl) (fun _ _ _ h => h) (by rfl) (by assumption) (fun w hSw => ?_) ?_
                  rotate_left
                  · (try dsimp only at hSw)
                    go_simp
                    try with_reducible rfl
                  try simp only [Act.put, List.setIfInBounds_toArray, List.set_cons_zero, List.set_cons_succ]
                  refine wpAnyH_ready (rs := [12]) (by kernel_rfl) (by simp) ?_
                  refine held_cons (i := 12) rfl (by rfl) (fun K hK => ?_) AllReadyH.nil
                  go_simp
                  refine hK.out _ _ True.intro (fun hHeld => ?_)
                  clear hK K
                  try simp only [Act.put, List.setIfInBounds_toArray, List.set_cons_zero, List.set_cons_succ]
                  have hb2 := (Below.refl wr2.heap.size wr2).alloc (Nat.le_refl _) (.cells #[.string ⟨#[]⟩, .bool false, .slice none 0 0, .slice none 0 0] 27)
                  have hbc := Blk.new wr2 27 #[.string ⟨#[]⟩, .bool false, .slice none 0 0, .slice none 0 0]
                  have hgc := hbw.size
                  have hbb := hbw.trans (hb2.mono hbw.size)
                  replace hrow := hrow.below hb2 (Nat.le_refl _)
                  try replace hs1 := hs1.below hb2
                  try replace hs2 := hs2.below hb2
                  try replace cb := cell_below hb2 cb
                  generalize wr2.alloc (.cells #[.string ⟨#[]⟩, .bool false, .slice none 0 0, .slice none 0 0] 27) = wr3 at *
                  generalize wr2.heap.size = gc at *
                  clear hb2 hbw
                  have hbw := hbb
                  clear hbb
                  refine wpAnyH_ready (rs := [13]) (by kernel_rfl) (by simp) ?_
                  refine held_cons (i := 13) rfl (by rfl) (fun K hK => ?_) AllReadyH.nil
                  have k0 := hbc.cell 0
                  have k1 := hbc.cell 1
                  have k2 := hbc.cell 2
                  have k3 := hbc.cell 3
                  dsimp at k0 k1 k2 k3
                  have f0 := hbc.frozen 0
                  have f1 := hbc.frozen 1
                  have f2 := hbc.frozen 2
                  have f3 := hbc.frozen 3
                  go_simp
                  refine hK.out _ _ True.intro (fun hHeld => ?_)
                  clear hK K
                  try simp only [Act.put, List.setIfInBounds_toArray, List.set_cons_zero, List.set_cons_succ]
                  clear k0 k1 k2 k3 f0 f1 f2 f3
                  have hset := cellsP wr3 gc (.string g.pre) (.bool g.leaf) (.slice B1 g.sl.length d1) (.slice B2 g.it.length d2)
                  have hbf := (((hbc.set 0 (.string g.pre)).set 1 (.bool g.leaf)).set 2 (.slice B1 g.sl.length d1)).set 3 (.slice B2 g.it.length d2)
                  have hs1' := hs1.ext hset (fun g e e2 => hs1.ne hbc (by decide) (by rw [e, e2]))
                  have hs2' := hs2.ext hset (fun g e e2 => hs2.ne hbc (by decide) (by rw [e, e2]))
                  have hbw' := below_self hbw (Nat.le_refl _) hset hgc
                  refine held_take (i := 14) (v := ?_) rfl (by kernel_rfl) (by kernel_rfl) (by kernel_rfl) (fun _ _ _ h => h) (by rfl) (by assumption) (fun w hSw => ?_) ?_
                  rotate_left
                  · (try dsimp only at hSw)
                    go_simp
                    try with_reducible rfl
                  try simp only [Act.put, List.setIfInBounds_toArray, List.set_cons_zero, List.set_cons_succ]
                  refine wpAnyH_done (by kernel_rfl) ?_ _
                  go_wp2_with fail
                  go_meet
                  exact ⟨gc, B1, B2, d1, d2, rfl, rfl, hgc, hbf, Row.of_own hs1', Row.of_own hs2', hs3, hbw'⟩
                · refine held_cons (i := 12) rfl (by rfl) (fun K hK => ?_) AllReadyH.nil
                  go_simp
                  refine hK.out _ _ True.intro (fun hHeld => ?_)
                  clear hK K
                  try simp only [Act.put, List.setIfInBounds_toArray, List.set_cons_zero, List.set_cons_succ]
                  have hb2 := (Below.refl wr1.heap.size wr1).alloc (Nat.le_refl _) (.cells #[.string ⟨#[]⟩, .bool false, .slice none 0 0, .slice none 0 0] 27)
                  have hbc := Blk.new wr1 27 #[.string ⟨#[]⟩, .bool false, .slice none 0 0, .slice none 0 0]
                  have hgc := hbw.size
                  have hbb := hbw.trans (hb2.mono hbw.size)
                  replace hrow := hrow.below hb2 (Nat.le_refl _)
                  try replace hs1 := hs1.below hb2
                  try replace hs2 := hs2.below hb2
                  try replace cb := cell_below hb2 cb
                  generalize wr1.alloc (.cells #[.string ⟨#[]⟩, .bool false, .slice none 0 0, .slice none 0 0] 27) = wr2 at *
                  generalize wr1.heap.size = gc at *
                  clear hb2 hbw
                  have hbw := hbb
                  clear hbb
                  refine wpAnyH_ready (rs := [8]) (by kernel_rfl) (by simp) ?_
                  refine held_cons (i := 8) rfl (by rfl) (fun K hK => ?_) AllReadyH.nil
                  go_simp
                  have hcall := fun R => IH.out (nextP pre bv) Kd (some ⟨br, o, none⟩) cr wr2 (by have := HK.out; have := HNS.out; omega) (by have := HNS.out; omega) (HRK.out _ hrow) (by have := HKL.out; omega) (by have := HKL.out; omega) HKO.out HKB.out (R := R)
                  rw [HKL.out, HG.out] at hcall
                  refine hcall _ ?_
                  intro B1 B2 d1 d2 wr3 hs1 hs2 hs3 hb2
                  dsimp only at hs1 hs2 hs3 ⊢
                  rw [HEO.out]
                  replace hrow := hrow.below hb2 (Nat.le_refl _)
                  try replace hbc := hbc.below hb2 hbc.lt
                  have hbb := hbw.trans (hb2.mono hbw.size)
                  refine hK.out _ _ True.intro (fun hHeld => ?_)
                  clear hK K
                  try simp only [Act.put, List.setIfInBounds_toArray, List.set_cons_zero, List.set_cons_succ]
                  clear hb2 hbw hcall
                  have hbw := hbb
                  clear hbb
                  refine held_take (i := 9) (v := ?_) rfl (by kernel_rfl) (by kernel_rfl) (by kernel_rfl) (fun _ _ _ h => h) (by rfl) (by assumption) (fun w hSw => ?_) ?_
                  rotate_left
                  · (try dsimp only at hSw)
                    go_simp
                    try with_reducible rfl
                  try simp only [Act.put, List.setIfInBounds_toArray, List.set_cons_zero, List.set_cons_succ]
                  refine held_take (i := 10) (v := ?_) rfl (by kernel_rfl) (by kernel_rfl) (by kernel_rfl) (fun _ _ _ h => h) (by rfl) (by assumption) (fun w hSw => ?_) ?_
                  rotate_left
                  · (try dsimp only at hSw)
                    go_simp
                    try with_reducible rfl
                  try simp only [Act.put, List.setIfInBounds_toArray, List.set_cons_zero, List.set_cons_succ]
                  refine held_take (i := 11) (v := ?_) rfl (by kernel_rfl) (by kernel_rfl) (by kernel_rfl) (fun _ _ _ h => h) (by rfl) (by assumption) (fun w hSw => ?_) ?_
                  rotate_left
                  · (try dsimp only at hSw)
                    go_simp
                    try with_reducible rfl
                  try simp only [Act.put, List.setIfInBounds_toArray, List.set_cons_zero, List.set_cons_succ]
                  refine wpAnyH_ready (rs := [13]) (by kernel_rfl) (by simp) ?_
                  refine held_cons (i := 13) rfl (by rfl) (fun K hK => ?_) AllReadyH.nil
                  have k0 := hbc.cell 0
                  have k1 := hbc.cell 1
                  have k2 := hbc.cell 2
                  have k3 := hbc.cell 3
                  dsimp at k0 k1 k2 k3
                  have f0 := hbc.frozen 0
                  have f1 := hbc.frozen 1
                  have f2 := hbc.frozen 2
                  have f3 := hbc.frozen 3
                  go_simp
                  refine hK.out _ _ True.intro (fun hHeld => ?_)
                  clear hK K
                  try simp only [Act.put, List.setIfInBounds_toArray, List.set_cons_zero, List.set_cons_succ]
                  clear k0 k1 k2 k3 f0 f1 f2 f3
                  have hset := cellsP wr3 gc (.string g.pre) (.bool g.leaf) (.slice B1 g.sl.length d1) (.slice B2 g.it.length d2)
                  have hbf := (((hbc.set 0 (.string g.pre)).set 1 (.bool g.leaf)).set 2 (.slice B1 g.sl.length d1)).set 3 (.slice B2 g.it.length d2)
                  have hs1' := hs1.ext hset (fun g e e2 => hs1.ne hbc (by decide) (by rw [e, e2]))
                  have hs2' := hs2.ext hset (fun g e e2 => hs2.ne hbc (by decide) (by rw [e, e2]))
                  have hbw' := below_self hbw (Nat.le_refl _) hset hgc
                  refine held_take (i := 14) (v := ?_) rfl (by kernel_rfl) (by kernel_rfl) (by kernel_rfl) (fun _ _ _ h => h) (by rfl) (by assumption) (fun w hSw => ?_) ?_
                  rotate_left
                  · (try dsimp only at hSw)
                    go_simp
                    try with_reducible rfl
                  try simp only [Act.put, List.setIfInBounds_toArray, List.set_cons_zero, List.set_cons_succ]
                  refine wpAnyH_done (by kernel_rfl) ?_ _
                  go_wp2_with fail
                  go_meet
                  exact ⟨gc, B1, B2, d1, d2, rfl, rfl, hgc, hbf, Row.of_own hs1', Row.of_own hs2', hs3, hbw'⟩
              · refine held_cons (i := 12) rfl (by rfl) (fun K hK => ?_) AllReadyH.nil
                go_simp
                refine hK.out _ _ True.intro (fun hHeld => ?_)
                clear hK K
                try simp only [Act.put, List.setIfInBounds_toArray, List.set_cons_zero, List.set_cons_succ]
                have hb2 := (Below.refl wr1.heap.size wr1).alloc (Nat.le_refl _) (.cells #[.string ⟨#[]⟩, .bool false, .slice none 0 0, .slice none 0 0] 27)
                have hbc := Blk.new wr1 27 #[.string ⟨#[]⟩, .bool false, .slice none 0 0, .slice none 0 0]
                have hgc := hbw.size
                have hbb := hbw.trans (hb2.mono hbw.size)
                replace hrow := hrow.below hb2 (Nat.le_refl _)
                try replace hs1 := hs1.below hb2
                try replace hs2 := hs2.below hb2
                try replace cb := cell_below hb2 cb
                generalize wr1.alloc (.cells #[.string ⟨#[]⟩, .bool false, .slice none 0 0, .slice none 0 0] 27) = wr2 at *
                generalize wr1.heap.size = gc at *
                clear hb2 hbw
                have hbw := hbb
                clear hbb
                refine wpAnyH_ready (rs := [3]) (by kernel_rfl) (by simp) ?_
                refine held_cons (i := 3) rfl (by rfl) (fun K hK => ?_) AllReadyH.nil
                have hcv := run_string_at wr2 gb (bv : Int) cb
                go_simp
                refine hK.out _ _ True.intro (fun hHeld => ?_)
                clear hK K
                try simp only [Act.put, List.setIfInBounds_toArray, List.set_cons_zero, List.set_cons_succ]
                clear hcv cb
                refine held_take (i := 4) (v := ?_) rfl (by kernel_rfl) (by kernel_rfl) (by kernel_rfl) (fun _ _ _ h => h) (by rfl) (by assumption) (fun w hSw => ?_) ?_
                rotate_left
                · (try dsimp only at hSw)
                  go_simp
                  try with_reducible rfl
                try simp only [Act.put, List.setIfInBounds_toArray, List.set_cons_zero, List.set_cons_succ]
                refine wpAnyH_ready (rs := [8]) (by kernel_rfl) (by simp) ?_
                refine held_cons (i := 8) rfl (by rfl) (fun K hK => ?_) AllReadyH.nil
                go_simp
                have hcall := fun R => IH.out (nextP pre bv) Kd (some ⟨br, o, none⟩) cr wr2 (by have := HK.out; have := HNS.out; omega) (by have := HNS.out; omega) (HRK.out _ hrow) (by have := HKL.out; omega) (by have := HKL.out; omega) HKO.out HKB.out (R := R)
                rw [HKL.out, HG.out] at hcall
                refine hcall _ ?_
                intro B1 B2 d1 d2 wr3 hs1 hs2 hs3 hb2
                dsimp only at hs1 hs2 hs3 ⊢
                rw [HEO.out]
                replace hrow := hrow.below hb2 (Nat.le_refl _)
                try replace hbc := hbc.below hb2 hbc.lt
                have hbb := hbw.trans (hb2.mono hbw.size)
                refine hK.out _ _ True.intro (fun hHeld => ?_)
                clear hK K
                try simp only [Act.put, List.setIfInBounds_toArray, List.set_cons_zero, List.set_cons_succ]
                clear hb2 hbw hcall
                have hbw := hbb
                clear hbb
                refine held_take (i := 9) (v := ?_) rfl (by kernel_rfl) (by kernel_rfl) (by kernel_rfl) (fun _ _ _ h => h) (by rfl) (by assumption) (fun w hSw => ?_) ?_
                rotate_left
                · (try dsimp only at hSw)
                  go_simp
                  try with_reducible rfl
                try simp only [Act.put, List.setIfInBounds_toArray, List.set_cons_zero, List.set_cons_succ]
                refine held_take (i := 10) (v := ?_) rfl (by kernel_rfl) (by kernel_rfl) (by kernel_rfl) (fun _ _ _ h => h) (by rfl) (by assumption) (fun w hSw => ?_) ?_
                rotate_left
                · (try dsimp only at hSw)
                  go_simp
                  try with_reducible rfl
                try simp only [Act.put, List.setIfInBounds_toArray, List.set_cons_zero, List.set_cons_succ]
                refine held_take (i := 11) (v := ?_) rfl (by kernel_rfl) (by kernel_rfl) (by kernel_rfl) (fun _ _ _ h => h) (by rfl) (by assumption) (fun w hSw => ?_) ?_
                rotate_left
                · (try dsimp only at hSw)
                  go_simp
                  try with_reducible rfl
                try simp only [Act.put, List.setIfInBounds_toArray, List.set_cons_zero, List.set_cons_succ]
                refine wpAnyH_ready (rs := [13]) (by kernel_rfl) (by simp) ?_
                refine held_cons (i := 13) rfl (by rfl) (fun K hK => ?_) AllReadyH.nil
                have k0 := hbc.cell 0
                have k1 := hbc.cell 1
                have k2 := hbc.cell 2
                have k3 := hbc.cell 3
                dsimp at k0 k1 k2 k3
                have f0 := hbc.frozen 0
                have f1 := hbc.frozen 1
                have f2 := hbc.frozen 2
                have f3 := hbc.frozen 3
                go_simp
                refine hK.out _ _ True.intro (fun hHeld => ?_)
                clear hK K
                try simp only [Act.put, List.setIfInBounds_toArray, List.set_cons_zero, List.set_cons_succ]
                clear k0 k1 k2 k3 f0 f1 f2 f3
                have hset := cellsP wr3 gc (.string g.pre) (.bool g.leaf) (.slice B1 g.sl.length d1) (.slice B2 g.it.length d2)
                have hbf := (((hbc.set 0 (.string g.pre)).set 1 (.bool g.leaf)).set 2 (.slice B1 g.sl.length d1)).set 3 (.slice B2 g.it.length d2)
                have hs1' := hs1.ext hset (fun g e e2 => hs1.ne hbc (by decide) (by rw [e, e2]))
                have hs2' := hs2.ext hset (fun g e e2 => hs2.ne hbc (by decide) (by rw [e, e2]))
                have hbw' := below_self hbw (Nat.le_refl _) hset hgc
                refine held_take (i := 14) (v := ?_) rfl (by kernel_rfl) (by kernel_rfl) (by kernel_rfl) (fun _ _ _ h => h) (by rfl) (by assumption) (fun w hSw => ?_) ?_
                rotate_left
                · (try dsimp only at hSw)
                  go_simp
                  try with_reducible rfl
                try simp only [Act.put, List.setIfInBounds_toArray, List.set_cons_zero, List.set_cons_succ]
                refine wpAnyH_done (by kernel_rfl) ?_ _
                go_wp2_with fail
                go_meet
                exact ⟨gc, B1, B2, d1, d2, rfl, rfl, hgc, hbf, Row.of_own hs1', Row.of_own hs2', hs3, hbw'⟩
            · refine held_cons (i := 12) rfl (by rfl) (fun K hK => ?_) AllReadyH.nil
              go_simp
              refine hK.out _ _ True.intro (fun hHeld => ?_)
              clear hK K
              try simp only [Act.put, List.setIfInBounds_toArray, List.set_cons_zero, List.set_cons_succ]
              have hb2 := (Below.refl wq.heap.size wq).alloc (Nat.le_refl _) (.cells #[.string ⟨#[]⟩, .bool false, .slice none 0 0, .slice none 0 0] 27)
              have hbc := Blk.new wq 27 #[.string ⟨#[]⟩, .bool false, .slice none 0 0, .slice none 0 0]
              have hgc := hbw.size
              have hbb := hbw.trans (hb2.mono hbw.size)
              replace hrow := hrow.below hb2 (Nat.le_refl _)
              try replace hs1 := hs1.below hb2
              try replace hs2 := hs2.below hb2
              try replace cb := cell_below hb2 cb
              generalize wq.alloc (.cells #[.string ⟨#[]⟩, .bool false, .slice none 0 0, .slice none 0 0] 27) = wr1 at *
              generalize wq.heap.size = gc at *
              clear hb2 hbw
              have hbw := hbb
              clear hbb
              refine wpAnyH_ready (rs := [2]) (by kernel_rfl) (by simp) ?_
              refine held_cons (i := 2) rfl (by rfl) (fun K hK => ?_) AllReadyH.nil
              go_simp
              refine hK.out _ _ True.intro (fun hHeld => ?_)
              clear hK K
              try simp only [Act.put, List.setIfInBounds_toArray, List.set_cons_zero, List.set_cons_succ]
              have hb2 := (Below.refl wr1.heap.size wr1).alloc (Nat.le_refl _) (.cells #[.int .u8 (bv : Int)] 5)
              have hbk := Blk.new wr1 5 #[.int .u8 (bv : Int)]
              have hbb := hbw.trans (hb2.mono hbw.size)
              replace hrow := hrow.below hb2 (Nat.le_refl _)
              try replace hbc := hbc.below hb2 hbc.lt
              generalize wr1.alloc (.cells #[.int .u8 (bv : Int)] 5) = wr2 at *
              have cb := hbk.cell 0
              dsimp at cb
              generalize wr1.heap.size = gb at *
              clear hb2 hbk hbw
              have hbw := hbb
              clear hbb
              refine wpAnyH_ready (rs := [3]) (by kernel_rfl) (by simp) ?_
              refine held_cons (i := 3) rfl (by rfl) (fun K hK => ?_) AllReadyH.nil
              have hcv := run_string_at wr2 gb (bv : Int) cb
              go_simp
              refine hK.out _ _ True.intro (fun hHeld => ?_)
              clear hK K
              try simp only [Act.put, List.setIfInBounds_toArray, List.set_cons_zero, List.set_cons_succ]
              clear hcv cb
              refine held_take (i := 4) (v := ?_) rfl (by kernel_rfl) (by kernel_rfl) (by kernel_rfl) (fun _ _ _ h => h) (by rfl) (by assumption) (fun w hSw => ?_) ?_
              rotate_left
              · (try dsimp only at hSw)
                go_simp
                try with_reducible rfl
              try simp only [Act.put, List.setIfInBounds_toArray, List.set_cons_zero, List.set_cons_succ]
              refine wpAnyH_ready (rs := [8]) (by kernel_rfl) (by simp) ?_
              refine held_cons (i := 8) rfl (by rfl) (fun K hK => ?_) AllReadyH.nil
              go_simp
              have hcall := fun R => IH.out (nextP pre bv) Kd (some ⟨br, o, none⟩) cr wr2 (by have := HK.out; have := HNS.out; omega) (by have := HNS.out; omega) (HRK.out _ hrow) (by have := HKL.out; omega) (by have := HKL.out; omega) HKO.out HKB.out (R := R)
              rw [HKL.out, HG.out] at hcall
              refine hcall _ ?_
              intro B1 B2 d1 d2 wr3 hs1 hs2 hs3 hb2
              dsimp only at hs1 hs2 hs3 ⊢
              rw [HEO.out]
              replace hrow := hrow.below hb2 (Nat.le_refl _)
              try replace hbc := hbc.below hb2 hbc.lt
              have hbb := hbw.trans (hb2.mono hbw.size)
              refine hK.out _ _ True.intro (fun hHeld => ?_)
              clear hK K
              try simp only [Act.put, List.setIfInBounds_toArray, List.set_cons_zero, List.set_cons_succ]
              clear hb2 hbw hcall
              have hbw := hbb
              clear hbb
              refine held_take (i := 9) (v := ?_) rfl (by kernel_rfl) (by kernel_rfl) (by kernel_rfl) (fun _ _ _ h => h) (by rfl) (by assumption) (fun w hSw => ?_) ?_
              rotate_left
              · (try dsimp only at hSw)
                go_simp
                try with_reducible rfl
              try simp only [Act.put, List.setIfInBounds_toArray, List.set_cons_zero, List.set_cons_succ]
              refine held_take (i := 10) (v := ?_) rfl (by kernel_rfl) (by kernel_rfl) (by kernel_rfl) (fun _ _ _ h => h) (by rfl) (by assumption) (fun w hSw => ?_) ?_
              rotate_left
              · (try dsimp only at hSw)
                go_simp
                try with_reducible rfl
              try simp only [Act.put, List.setIfInBounds_toArray, List.set_cons_zero, List.set_cons_succ]
              refine held_take (i := 11) (v := ?_) rfl (by kernel_rfl) (by kernel_rfl) (by kernel_rfl) (fun _ _ _ h => h) (by rfl) (by assumption) (fun w hSw => ?_) ?_
              rotate_left
              · (try dsimp only at hSw)
                go_simp
                try with_reducible rfl
              try simp only [Act.put, List.setIfInBounds_toArray, List.set_cons_zero, List.set_cons_succ]
              refine wpAnyH_ready (rs := [13]) (by kernel_rfl) (by simp) ?_
              refine held_cons (i := 13) rfl (by rfl) (fun K hK => ?_) AllReadyH.nil
              have k0 := hbc.cell 0
              have k1 := hbc.cell 1
              have k2 := hbc.cell 2
              have k3 := hbc.cell 3
              dsimp at k0 k1 k2 k3
              have f0 := hbc.frozen 0
              have f1 := hbc.frozen 1
              have f2 := hbc.frozen 2
              have f3 := hbc.frozen 3
              go_simp
              refine hK.out _ _ True.intro (fun hHeld => ?_)
              clear hK K
              try simp only [Act.put, List.setIfInBounds_toArray, List.set_cons_zero, List.set_cons_succ]
              clear k0 k1 k2 k3 f0 f1 f2 f3
              have hset := cellsP wr3 gc (.string g.pre) (.bool g.leaf) (.slice B1 g.sl.length d1) (.slice B2 g.it.length d2)
              have hbf := (((hbc.set 0 (.string g.pre)).set 1 (.bool g.leaf)).set 2 (.slice B1 g.sl.length d1)).set 3 (.slice B2 g.it.length d2)
              have hs1' := hs1.ext hset (fun g e e2 => hs1.ne hbc (by decide) (by rw [e, e2]))
              have hs2' := hs2.ext hset (fun g e e2 => hs2.ne hbc (by decide) (by rw [e, e2]))
              have hbw' := below_self hbw (Nat.le_refl _) hset hgc
              refine held_take (i := 14) (v := ?_) rfl (by kernel_rfl) (by kernel_rfl) (by kernel_rfl) (fun _ _ _ h => h) (by rfl) (by assumption) (fun w hSw => ?_) ?_
              rotate_left
              · (try dsimp only at hSw)
                go_simp
                try with_reducible rfl
              try simp only [Act.put, List.setIfInBounds_toArray, List.set_cons_zero, List.set_cons_succ]
              refine wpAnyH_done (by kernel_rfl) ?_ _
              go_wp2_with fail
              go_meet
              exact ⟨gc, B1, B2, d1, d2, rfl, rfl, hgc, hbf, Row.of_own hs1', Row.of_own hs2', hs3, hbw'⟩
          case rest =>
          obtain ⟨gc, B1, B2, d1, d2, rfl, rfl, hgc, hbc, hr1, hr2, hsl256, hbw⟩ := hcut
          have hx8 := hx7.trans (hbw.mono hx7.size)
          replace hb6 := hb6.below hbw hb6.lt
          replace hb4 := hb4.below hbw hb4.lt
          replace hown := hown.below hbw
          replace hrow := hrow.below hbw (Nat.le_refl _)
          clear hbw hx7
          generalize wc = w7 at *
          cases ok
          · obtain rfl : eo = 3 := by have := HEO.out; simpa using this.symm
            have hr := HR.out
            rw [HNO.out rfl, if_neg (by decide)] at hr
            replace HR := Lib.hid hr
            clear hr hrow hown hb6 hr1 hr2 hbc
            have q0 := hb4.cell 0
            have q1 := hb4.cell 1
            have q2 := hb4.cell 2
            have q3 := hb4.cell 3
            dsimp at q0 q1 q2 q3
            have f0 := hb4.frozen 0
            have f1 := hb4.frozen 1
            have f2 := hb4.frozen 2
            have f3 := hb4.frozen 3
            go_wp2_with fail
            refine bodyPost_ret (v := .tuple #[.agg #[.string ⟨#[]⟩, .bool false, .slice none 0 0, .slice none 0 0], .int .i64 3]) (by simp [results, go_sem, q0, q1, q2, q3]) rfl ?_
            have hset := cellsP w7 g4 (.string ⟨#[]⟩) (.bool false) (.slice none 0 0) (.slice none 0 0)
            exact HR.out none none 0 0 _ (Own.nil _ _ _ _) (Own.nil _ _ _ _) (by decide) (below_self hx8 hge hset (Nat.le_of_eq HG4.out))
          obtain rfl : eo = 0 := by have := HEO.out; simpa using this.symm
          have p0 := hbc.cell 0
          have p1 := hbc.cell 1
          have p2 := hbc.cell 2
          have p3 := hbc.cell 3
          dsimp at p0 p1 p2 p3
          go_wp2_with fail
          refine page_Mark g B1 B2 d1 d2 w7 hr1 hr2 (by omega) (by have := HIT.out; omega) HSB.out ?_
          intro w8 hb8
          have hsl := HSL.out
          generalize (pmkR g).1 = mk at *
          generalize (pmkR g).2 = me at *
          replace HSL := Lib.hid hsl
          have hx9 := hx8.trans (hb8.mono hx8.size)
          replace hb4 := hb4.below hb8 hb4.lt
          replace hb6 := hb6.below hb8 hb6.lt
          replace hown := hown.below hb8
          replace hrow := hrow.below hb8 (Nat.le_refl _)
          clear hsl p0 p1 p2 p3 hr1 hr2 hb8 hx8 hbc
          have hsln := slots_len pre m b
          obtain ⟨P, hP⟩ : ∃ P, slotsT pre m b = P := ⟨_, rfl⟩
          have hsl := HSL.out
          rw [hP] at hsl hown hb6 hsln
          replace HSL := Lib.hid hsl
          clear hsl hP
          have hb6' := hb6.alloc (.cells #[.int .u8 (bv : Int), .string mk] 33)
          have c1' := hb6.cell 2
          have c2 := hb6'.cell 2
          dsimp at c1' c2
          have hown' := hown.alloc (.cells #[.int .u8 (bv : Int), .string mk] 33)
          have hn6 := hown'.ne hb6' (by decide)
          have hpl : (P ++ [((bv : Int), mk)]).length = P.length + 1 := by simp
          have HPL := Lib.hid hpl
          have HOK2 := Lib.hid HAL.out
          have hb4' := hb4.alloc (.cells #[.int .u8 (bv : Int), .string mk] 33)
          clear hpl hown hb4 hrow
          have hPb : P.length ≤ 256 := by omega
          clear hsln
          have hnl : (n : Int) ≤ (r.length : Int) := by omega
          have hnr : rem (byteAt pre.size) (bv + 1) m = [] ∨ rem (byteAt pre.size) (bv + 1) m ≠ [] := Classical.em _
          have HROW2 := Lib.hid (HRD.out w HROW.out)
          have hb256' : bv + 1 ≤ 256 := by omega
          by_cases hcn : cr = n
          · have hnil : rem (byteAt pre.size) (bv + 1) m = [] := List.eq_nil_of_length_eq_zero (by have := HLD.out; omega)
            have hrn : r.length = n := by omega
            have HNIL := Lib.hid hnil
            have HRN := Lib.hid hrn
            clear hnr hnil hrn
            go_wp2_with (first
              | (at_builtin; refine wpList_append_one rfl _ _ _ (by rfl) w.heap.size 33 i0 _ 2 24 Try.underlying25 hi0 hI0 hI1 hI2 rfl (by decide) slC (.slice A7 P.length c7) P (by rfl) hown' ((bv : Int), mk) ⟨w8.heap.size, 0, none⟩ 1 (by rfl) rfl ((Blk.new _ _ _).news rfl) (slT_one _) (by unfold maxLen; omega) (by omega) (Nat.le_trans hx9.size (by simp)) ?_
                 intro g9 c9 w9 hown9 hx9e hst9
                 have hb69 := hb6'.ext hx9e hn6
                 have k2 := hb69.cell 2
                 have kf := hb69.frozen 2
                 dsimp at k2))
            have hx10 := below_ext (hx9.alloc hx9.size (.cells #[.int .u8 (bv : Int), .string mk] 33)) (Nat.le_refl _) hx9e (fun b e => (hown'.lt b e).1)
            have hb49 := hb4'.ext hx9e (hown'.ne hb4' (by decide))
            have hset := Ext.self w9 g6 2 (.slice (some ⟨g9, 0, none⟩) (P.length + 1) c9)
            have hown10 := hown9.ext hset (fun g e e2 => hown9.ne hb69 (by decide) (by rw [e, e2]))
            have hb410 := hb49.far (p := ⟨g6, 2, none⟩) h64 (.slice (some ⟨g9, 0, none⟩) (P.length + 1) c9)
            have hb610 := hb69.set 2 (.slice (some ⟨g9, 0, none⟩) (P.length + 1) c9)
            have hx11 := below_self hx10 (Nat.le_refl _) hset hle6
            clear hx10 hb49 hset hown9 hb69 k2 kf hx9e hst9 hb6' hb4' hown' hn6 c1' c2 hx9 hb6
            go_roundw
            case rel => exact ⟨bv + 1, [], some ⟨br, o, none⟩, 0, some ⟨g9, 0, none⟩, c9, by have := HRN.out; simp [this], hb256', Lib.hid HNIL.out.symm, Nat.zero_le _, Nat.zero_le _, Lib.hid (.inl rfl), by rw [HSL.out, HPL.out]; exact hb610, by rw [HSL.out, HPL.out]; exact hown10, hb410, HOK2, hx11⟩
            case measure => simp [slLen]; omega
          · clear hnr
            go_wp2_with (first
              | (at_builtin; refine wpList_append_one rfl _ _ _ (by rfl) w.heap.size 33 i0 _ 2 24 Try.underlying25 hi0 hI0 hI1 hI2 rfl (by decide) slC (.slice A7 P.length c7) P (by rfl) hown' ((bv : Int), mk) ⟨w8.heap.size, 0, none⟩ 1 (by rfl) rfl ((Blk.new _ _ _).news rfl) (slT_one _) (by unfold maxLen; omega) (by omega) (Nat.le_trans hx9.size (by simp)) ?_
                 intro g9 c9 w9 hown9 hx9e hst9
                 have hb69 := hb6'.ext hx9e hn6
                 have k2 := hb69.cell 2
                 have kf := hb69.frozen 2
                 dsimp at k2))
            have hx10 := below_ext (hx9.alloc hx9.size (.cells #[.int .u8 (bv : Int), .string mk] 33)) (Nat.le_refl _) hx9e (fun b e => (hown'.lt b e).1)
            have hb49 := hb4'.ext hx9e (hown'.ne hb4' (by decide))
            have hset := Ext.self w9 g6 2 (.slice (some ⟨g9, 0, none⟩) (P.length + 1) c9)
            have hown10 := hown9.ext hset (fun g e e2 => hown9.ne hb69 (by decide) (by rw [e, e2]))
            have hb410 := hb49.far (p := ⟨g6, 2, none⟩) h64 (.slice (some ⟨g9, 0, none⟩) (P.length + 1) c9)
            have hb610 := hb69.set 2 (.slice (some ⟨g9, 0, none⟩) (P.length + 1) c9)
            have hx11 := below_self hx10 (Nat.le_refl _) hset hle6
            clear hx10 hb49 hset hown9 hb69 k2 kf hx9e hst9 hb6' hb4' hown' hn6 c1' c2 hx9 hb6
            go_roundw
            case rel => exact ⟨bv + 1, rem (byteAt pre.size) (bv + 1) m, some ⟨br, o + n * 2, none⟩, cr - n, some ⟨g9, 0, none⟩, c9, by rw [HLD.out], hb256', Lib.hid rfl, by rw [HLD.out]; omega, by rw [HLD.out]; omega, HROW2, by rw [HSL.out, HPL.out]; exact hb610, by rw [HSL.out, HPL.out]; exact hown10, hb410, HOK2, hx11⟩
            case measure => simp [slLen]; omega
        · have z1 : ¬ (0 : Int) < (r.length : Int) := by omega
          have z2 : decide ((0 : Int) < (r.length : Int)) = false := decide_eq_false z1
          have z3 : decide (0 < r.length) = false := decide_eq_false hz
          have hrn : r = [] := List.eq_nil_of_length_eq_zero (by omega)
          have hsk := slotsT_skip (pre := pre) (l := m) (b := b) (c := 256) hb (fun t h1 h2 => by
            rw [kid_eq hp31 HTO.out HBG.out h2]
            exact rem_none (HREM.out.symm.trans hrn) h1)
          have hr := HR.out
          rw [hsk.2 HOK.out, if_pos rfl, hsk.1] at hr
          have hln := slots_len pre m b
          replace HR := Lib.hid hr
          clear hrn hsk hr HREM HOK
          generalize slotsT pre m b = P at *
          have p0 := hb6.cell 0
          have p1 := hb6.cell 1
          have p2 := hb6.cell 2
          have p3 := hb6.cell 3
          dsimp at p0 p1 p2 p3
          have q0 := hb4.cell 0
          have q1 := hb4.cell 1
          have q2 := hb4.cell 2
          have q3 := hb4.cell 3
          dsimp at q0 q1 q2 q3
          have f0 := hb4.frozen 0
          have f1 := hb4.frozen 1
          have f2 := hb4.frozen 2
          have f3 := hb4.frozen 3
          have hP256 : P.length ≤ 256 := by omega
          clear hln
          go_wp2_with fail
          refine bodyPost_ret (v := .tuple #[.agg #[.string pre, .bool false, .slice A7 P.length c7, .slice none 0 0], .int .i64 0]) (by simp [results, go_sem, q0, q1, q2, q3]) rfl ?_
          have hset := cellsP wr g4 (.string pre) (.bool false) (.slice A7 P.length c7) (.slice none 0 0)
          have hne := hown.ne hb4 (by decide)
          exact HR.out A7 none c7 0 _ (hown.ext hset (fun g e e2 => hne (by rw [e, e2]))) (Own.nil _ _ _ _) hP256 (below_self hx hge hset (Nat.le_of_eq HG4.out))
end
end Go.Proofs.Ytlkjonlipnmbnaa
/- tree.At, tree.Root, spenceref21.At. -/
namespace Go.Proofs.Ytlkjonlipnmbnaa
open Go.RowKit Go.Lib
section
def AtRet (R : Ending → World → Prop) (w : World) (r : PgV × Int) : Prop :=
  ∀ A1 A2 c1 c2 w', Own w' w.heap.size 33 2 slC (.slice A1 r.1.sl.length c1) r.1.sl → Own w' w.heap.size 38 2 itC (.slice A2 r.1.it.length c2) r.1.it → r.1.sl.length ≤ 256 → r.1.it.length ≤ 8 → Below w.heap.size w w' → R (.returned (.tuple #[.agg #[.string r.1.pre, .bool r.1.leaf, .slice A1 r.1.sl.length c1, .slice A2 r.1.it.length c2], .int .i64 r.2])) w'
theorem pg_no {pre : ByteArray} {l : List It} (h : (pgR pre l).2 = false) : (pgR pre l).1 = noP := by
  by_cases hp : pre.size ≤ 31
  · by_cases hl : l.length ≤ 8
    · rw [pgR_leaf hp hl] at h; cases h
    · rw [pgR_node hp (by omega)] at h ⊢
      split at h
      · cases h
      · next hn => rw [if_neg hn]
  · rw [pgR_big l (by omega)]
theorem at_bad {pre : ByteArray} {l : List It} (h : checkT l ≠ 0) : atR pre l = (noP, checkT l) := by unfold atR; rw [if_pos h]
theorem at_pg {pre : ByteArray} {l : List It} (h : checkT l = 0) : atR pre l = ((pgR pre (belowR pre l)).1, if (pgR pre (belowR pre l)).2 = true then 0 else 3) := by
  unfold atR
  rw [if_neg (fun e => e h)]
  cases hz : (pgR pre (belowR pre l)).2
  · rw [if_neg (by decide), if_neg (by decide), pg_no hz]
  · rw [if_pos rfl, if_pos rfl]
theorem pg_sl (pre : ByteArray) (l : List It) : (pgR pre l).1.sl.length ≤ 256 := by
  by_cases hp : pre.size ≤ 31
  · by_cases hl : l.length ≤ 8
    · rw [pgR_leaf hp hl]; exact Nat.zero_le _
    · rw [pgR_node hp (by omega)]
      split
      · exact slots_len pre l 256
      · exact Nat.zero_le _
  · rw [pgR_big l (by omega)]; exact Nat.zero_le _
set_option maxHeartbeats 2000000 in
set_option maxRecDepth 100000 in
theorem tree_At (pre : ByteArray) (l : List It) (A : Option Addr) (c : Nat) (w : World) (hps : pre.size ≤ 1000) (h : Row w A (flat itC l)) (hl : l.length ≤ 100000) (hlc : l.length ≤ c) {R : Ending → World → Prop} (hR : AtRet R w (atR pre l)) :
    Calls Try.prog 9 #[.string pre, .slice A l.length c] w R := by
  have HR := Lib.hid hR
  clear hR
  go_enter Try.func9, Try.ntmps9
  go_upto_region 1 with fail
  have hbk := Blk.new w 27 #[.string ⟨#[]⟩, .bool false, .slice none 0 0, .slice none 0 0]
  have hx := (Below.refl w.heap.size w).alloc (Nat.le_refl _) (.cells #[.string ⟨#[]⟩, .bool false, .slice none 0 0, .slice none 0 0] 27)
  generalize w.alloc (.cells #[.string ⟨#[]⟩, .bool false, .slice none 0 0, .slice none 0 0] 27) = wa at *
  have hge : w.heap.size ≤ w.heap.size := Nat.le_refl _
  obtain ⟨g4, hg4⟩ : ∃ g, w.heap.size = g := ⟨_, rfl⟩
  rw [hg4] at hbk ⊢
  have HG4 := Lib.hid hg4
  clear hg4
  obtain ⟨z, hz⟩ : ∃ z, checkT l = z := ⟨_, rfl⟩
  go_wp2_with fail
  refine tree_Check l A c wa (h.below hx (Nat.le_refl _)) (by omega) ?_
  rw [hz]
  intro w1 hb1
  replace hbk := hbk.below hb1 hbk.lt
  replace hx := hx.trans (hb1.mono hx.size)
  clear hb1
  by_cases hzz : z = 0
  rotate_left
  · have hzb : (z != 0) = true := by simpa using hzz
    rw [at_bad (by rw [hz]; exact hzz), hz] at HR
    have q0 := hbk.cell 0
    have q1 := hbk.cell 1
    have q2 := hbk.cell 2
    have q3 := hbk.cell 3
    dsimp at q0 q1 q2 q3
    have f0 := hbk.frozen 0
    have f1 := hbk.frozen 1
    have f2 := hbk.frozen 2
    have f3 := hbk.frozen 3
    clear hzz hz
    go_wp2_with fail
    refine bodyPost_ret (v := .tuple #[.agg #[.string ⟨#[]⟩, .bool false, .slice none 0 0, .slice none 0 0], .int .i64 z]) (by simp [results, go_sem, q0, q1, q2, q3]) rfl ?_
    have hset := cellsP w1 g4 (.string ⟨#[]⟩) (.bool false) (.slice none 0 0) (.slice none 0 0)
    exact HR.out none none 0 0 _ (Own.nil _ _ _ _) (Own.nil _ _ _ _) (Nat.zero_le _) (Nat.zero_le _) (below_self hx hge hset (Nat.le_of_eq HG4.out))
  subst hzz
  have hto := checkT_ok hz
  rw [at_pg hz] at HR
  have HTO := Lib.hid hto
  clear hz hto
  go_wp2_with fail
  refine tree_below l A c pre w1 (h.below hx (Nat.le_refl _)) HTO.out hl hlc ?_
  intro A5 c5 w2 hr5 hc5 hb2
  replace hbk := hbk.below hb2 hbk.lt
  replace hx := hx.trans (hb2.mono hx.size)
  clear hb2
  have hbl := below_len pre l
  have hmk := fun R => tree_make (32 - pre.size) pre (belowR pre l) A5 c5 w2 rfl hps hr5 (by omega) hc5 (HTO.out.filter _) (fun x hx => (below_mem hx).2) (R := R)
  have hsl := pg_sl pre (belowR pre l)
  have hit := pg_it pre (belowR pre l)
  generalize pgR pre (belowR pre l) = r at *
  obtain ⟨g, ok⟩ := r
  dsimp only at HR hsl hit
  have HSL := Lib.hid hsl
  have HIT := Lib.hid hit
  generalize belowR pre l = m at *
  clear hsl hit
  have HLE := Lib.hid hx.size
  go_wp2_with fail
  refine hmk _ ?_
  intro B1 B2 d1 d2 w3 hs1 hs2 hs3 hb3
  dsimp only at hs1 hs2 hs3 ⊢
  replace hbk := hbk.below hb3 hbk.lt
  replace hx := hx.trans (hb3.mono hx.size)
  clear hb3 hmk
  generalize (if ok = true then (0 : Int) else 3) = eo at *
  have q0 := hbk.cell 0
  have q1 := hbk.cell 1
  have q2 := hbk.cell 2
  have q3 := hbk.cell 3
  dsimp at q0 q1 q2 q3
  have f0 := hbk.frozen 0
  have f1 := hbk.frozen 1
  have f2 := hbk.frozen 2
  have f3 := hbk.frozen 3
  go_wp2_with fail
  refine bodyPost_ret (v := .tuple #[.agg #[.string g.pre, .bool g.leaf, .slice B1 g.sl.length d1, .slice B2 g.it.length d2], .int .i64 eo]) (by simp [results, go_sem, q0, q1, q2, q3]) rfl ?_
  have hset := cellsP w3 g4 (.string g.pre) (.bool g.leaf) (.slice B1 g.sl.length d1) (.slice B2 g.it.length d2)
  exact HR.out B1 B2 d1 d2 _ ((hs1.ext hset (fun g e e2 => hs1.ne hbk (by decide) (by rw [e, e2]))).mono HLE.out) ((hs2.ext hset (fun g e e2 => hs2.ne hbk (by decide) (by rw [e, e2]))).mono HLE.out) HSL.out HIT.out (below_self hx hge hset (Nat.le_of_eq HG4.out))
set_option maxHeartbeats 2000000 in
set_option maxRecDepth 100000 in
theorem tree_Root (l : List It) (A : Option Addr) (c : Nat) (w : World) (h : Row w A (flat itC l)) (hl : l.length ≤ 100000) (hlc : l.length ≤ c) {R : Ending → World → Prop}
    (hR : ∀ w', Below w.heap.size w w' → R (.returned (.tuple #[.string (if (atR ⟨#[]⟩ l).2 = 0 then (pmkR (atR ⟨#[]⟩ l).1).1 else ⟨#[]⟩), .int .i64 (atR ⟨#[]⟩ l).2])) w') :
    Calls Try.prog 12 #[.slice A l.length c] w R := by
  have HR := Lib.hid hR
  clear hR
  have hat := fun R => tree_At ⟨#[]⟩ l A c w (by decide) h hl hlc (R := R)
  have hok : (atR ⟨#[]⟩ l).2 = 0 → (pmkR (atR ⟨#[]⟩ l).1).2 = 0 := fun e => by
    by_cases hz : checkT l = 0
    · rw [at_pg hz] at e ⊢
      dsimp only at e ⊢
      cases ho : (pgR ⟨#[]⟩ (belowR ⟨#[]⟩ l)).2
      · rw [ho, if_neg (by decide)] at e; exact absurd e (by decide)
      · exact (mark_ok (pg_right _ rfl ((checkT_ok hz).filter _) (fun x hx => (below_mem hx).2) ho)).1
    · rw [at_bad hz] at e; exact absurd e hz
  have hsb : ∀ j, j < (atR ⟨#[]⟩ l).1.sl.length → 0 ≤ ((atR ⟨#[]⟩ l).1.sl.getD j (0, emp)).1 ∧ ((atR ⟨#[]⟩ l).1.sl.getD j (0, emp)).1 < 256 := by
    by_cases hz : checkT l = 0
    · rw [at_pg hz]; exact pg_sb _ _
    · rw [at_bad hz]; intro j hj; exact absurd hj (by simp [noP])
  generalize atR ⟨#[]⟩ l = r at *
  obtain ⟨g, e⟩ := r
  dsimp only at HR hok hsb
  have HOK := Lib.hid hok
  have HSB := Lib.hid hsb
  clear hok hsb
  go_enter Try.func12, Try.ntmps12
  go_wp2_with fail
  refine hat _ ?_
  intro B1 B2 d1 d2 w3 hr1 hr2 hs1 hs2 hb3
  dsimp only at hr1 hr2 hs1 hs2 ⊢
  replace hr1 := Row.of_own hr1
  replace hr2 := Row.of_own hr2
  clear hat
  go_upto_region 2 with fail
  have hx := hb3.alloc hb3.size (.cells #[.string g.pre, .bool g.leaf, .slice B1 g.sl.length d1, .slice B2 g.it.length d2] 27)
  have hq := (Below.refl w3.heap.size w3).alloc (Nat.le_refl _) (.cells #[.string g.pre, .bool g.leaf, .slice B1 g.sl.length d1, .slice B2 g.it.length d2] 27)
  have hbc := Blk.new w3 27 #[.string g.pre, .bool g.leaf, .slice B1 g.sl.length d1, .slice B2 g.it.length d2]
  replace hr1 := hr1.below hq (Nat.le_refl _)
  replace hr2 := hr2.below hq (Nat.le_refl _)
  generalize w3.alloc (.cells #[.string g.pre, .bool g.leaf, .slice B1 g.sl.length d1, .slice B2 g.it.length d2] 27) = w4 at *
  have p0 := hbc.cell 0
  have p1 := hbc.cell 1
  have p2 := hbc.cell 2
  have p3 := hbc.cell 3
  dsimp at p0 p1 p2 p3
  generalize w3.heap.size = bz at *
  clear hbc hq hb3
  by_cases he : e = 0
  · have heb : (e != 0) = false := by simpa using he
    have hmk := HOK.out he
    rw [if_pos he] at HR
    have HMK := Lib.hid hmk
    clear hmk
    subst he
    go_wp2_with fail
    refine page_Mark g B1 B2 d1 d2 w4 hr1 hr2 (by omega) (by omega) HSB.out ?_
    rw [HMK.out]
    intro w5 hb5
    generalize (pmkR g).1 = mk at *
    go_wp2_with fail
    exact HR.out _ (hx.trans (hb5.mono hx.size))
  · have heb : (e != 0) = true := by simpa using he
    rw [if_neg he] at HR
    clear he
    go_wp2_with fail
    exact HR.out _ hx
set_option maxHeartbeats 2000000 in
set_option maxRecDepth 100000 in
theorem ref21_At (pre : ByteArray) (l : List It) (A : Option Addr) (c : Nat) (w : World) (hps : pre.size ≤ 1000) (h : Row w A (flat itC l)) (hl : l.length ≤ 100000) {R : Ending → World → Prop} (hR : AtRet R w (atR pre l)) :
    Calls Try.prog 11 #[.string pre, .slice A l.length c] w R := by
  have HR := Lib.hid hR
  clear hR
  go_enter Try.func11, Try.ntmps11
  go_upto_region 1 with fail
  have hbk := Blk.new w 27 #[.string ⟨#[]⟩, .bool false, .slice none 0 0, .slice none 0 0]
  have hx := (Below.refl w.heap.size w).alloc (Nat.le_refl _) (.cells #[.string ⟨#[]⟩, .bool false, .slice none 0 0, .slice none 0 0] 27)
  generalize w.alloc (.cells #[.string ⟨#[]⟩, .bool false, .slice none 0 0, .slice none 0 0] 27) = wa at *
  have hge : w.heap.size ≤ w.heap.size := Nat.le_refl _
  obtain ⟨g4, hg4⟩ : ∃ g, w.heap.size = g := ⟨_, rfl⟩
  rw [hg4] at hbk ⊢
  have HG4 := Lib.hid hg4
  clear hg4
  obtain ⟨z, hz⟩ : ∃ z, checkT l = z := ⟨_, rfl⟩
  go_wp2_with fail
  refine ref21_Check l A c wa (h.below hx (Nat.le_refl _)) (by omega) ?_
  rw [hz]
  intro w1 hb1
  replace hbk := hbk.below hb1 hbk.lt
  replace hx := hx.trans (hb1.mono hx.size)
  clear hb1
  by_cases hzz : z = 0
  rotate_left
  · have hzb : (z != 0) = true := by simpa using hzz
    rw [at_bad (by rw [hz]; exact hzz), hz] at HR
    have q0 := hbk.cell 0
    have q1 := hbk.cell 1
    have q2 := hbk.cell 2
    have q3 := hbk.cell 3
    dsimp at q0 q1 q2 q3
    have f0 := hbk.frozen 0
    have f1 := hbk.frozen 1
    have f2 := hbk.frozen 2
    have f3 := hbk.frozen 3
    clear hzz hz
    go_wp2_with fail
    refine bodyPost_ret (v := .tuple #[.agg #[.string ⟨#[]⟩, .bool false, .slice none 0 0, .slice none 0 0], .int .i64 z]) (by simp [results, go_sem, q0, q1, q2, q3]) rfl ?_
    have hset := cellsP w1 g4 (.string ⟨#[]⟩) (.bool false) (.slice none 0 0) (.slice none 0 0)
    exact HR.out none none 0 0 _ (Own.nil _ _ _ _) (Own.nil _ _ _ _) (Nat.zero_le _) (Nat.zero_le _) (below_self hx hge hset (Nat.le_of_eq HG4.out))
  subst hzz
  rw [at_pg hz] at HR
  clear hz
  have hpg := fun R => ref21_Page (32 - pre.size) pre l A c w1 rfl hps (h.below hx (Nat.le_refl _)) hl (R := R)
  have hsl := pg_sl pre (belowR pre l)
  have hit := pg_it pre (belowR pre l)
  have hno := fun (h : (pgR pre (belowR pre l)).2 = false) => pg_no h
  generalize pgR pre (belowR pre l) = r at *
  obtain ⟨g, ok⟩ := r
  dsimp only at HR hsl hit hno
  have HSL := Lib.hid hsl
  have HIT := Lib.hid hit
  have HNO := Lib.hid hno
  clear hsl hit hno
  have HLE := Lib.hid hx.size
  go_wp2_with fail
  refine hpg _ ?_
  intro B1 B2 d1 d2 w3 hs1 hs2 hb3
  dsimp only at hs1 hs2 ⊢
  replace hbk := hbk.below hb3 hbk.lt
  replace hx := hx.trans (hb3.mono hx.size)
  clear hb3 hpg
  go_upto_region 5 with fail
  replace hbk := hbk.alloc (.cells #[.string g.pre, .bool g.leaf, .slice B1 g.sl.length d1, .slice B2 g.it.length d2] 27)
  replace hs1 := hs1.alloc (.cells #[.string g.pre, .bool g.leaf, .slice B1 g.sl.length d1, .slice B2 g.it.length d2] 27)
  replace hs2 := hs2.alloc (.cells #[.string g.pre, .bool g.leaf, .slice B1 g.sl.length d1, .slice B2 g.it.length d2] 27)
  replace hx := hx.alloc hx.size (.cells #[.string g.pre, .bool g.leaf, .slice B1 g.sl.length d1, .slice B2 g.it.length d2] 27)
  have hbc := Blk.new w3 27 #[.string g.pre, .bool g.leaf, .slice B1 g.sl.length d1, .slice B2 g.it.length d2]
  generalize w3.alloc (.cells #[.string g.pre, .bool g.leaf, .slice B1 g.sl.length d1, .slice B2 g.it.length d2] 27) = w4 at *
  have p0 := hbc.cell 0
  have p1 := hbc.cell 1
  have p2 := hbc.cell 2
  have p3 := hbc.cell 3
  dsimp at p0 p1 p2 p3
  generalize w3.heap.size = bz at *
  have q0 := hbk.cell 0
  have q1 := hbk.cell 1
  have q2 := hbk.cell 2
  have q3 := hbk.cell 3
  dsimp at q0 q1 q2 q3
  have f0 := hbk.frozen 0
  have f1 := hbk.frozen 1
  have f2 := hbk.frozen 2
  have f3 := hbk.frozen 3
  clear hbc
  cases ok
  · have hg := HNO.out rfl
    subst hg
    go_wp2_with fail
    refine bodyPost_ret (v := .tuple #[.agg #[.string ⟨#[]⟩, .bool false, .slice none 0 0, .slice none 0 0], .int .i64 3]) (by simp [results, go_sem, q0, q1, q2, q3]) rfl ?_
    have hset := cellsP w4 g4 (.string ⟨#[]⟩) (.bool false) (.slice none 0 0) (.slice none 0 0)
    exact HR.out none none 0 0 _ (Own.nil _ _ _ _) (Own.nil _ _ _ _) (Nat.zero_le _) (Nat.zero_le _) (below_self hx hge hset (Nat.le_of_eq HG4.out))
  · go_wp2_with fail
    refine bodyPost_ret (v := .tuple #[.agg #[.string g.pre, .bool g.leaf, .slice B1 g.sl.length d1, .slice B2 g.it.length d2], .int .i64 0]) (by simp [results, go_sem, q0, q1, q2, q3]) rfl ?_
    have hset := cellsP w4 g4 (.string g.pre) (.bool g.leaf) (.slice B1 g.sl.length d1) (.slice B2 g.it.length d2)
    exact HR.out B1 B2 d1 d2 _ ((hs1.ext hset (fun g e e2 => hs1.ne hbk (by decide) (by rw [e, e2]))).mono HLE.out) ((hs2.ext hset (fun g e e2 => hs2.ne hbk (by decide) (by rw [e, e2]))).mono HLE.out) HSL.out HIT.out (below_self hx hge hset (Nat.le_of_eq HG4.out))
end
end Go.Proofs.Ytlkjonlipnmbnaa
