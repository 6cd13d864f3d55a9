/- spenceref20.Check. -/
import Derived.Test.YtlkjonlipnmbnaaRef20
import Derived.Test.YtlkjonlipnmbnaaPagePut
namespace Go.Proofs.Ytlkjonlipnmbnaa
open Go.RowKit Go.Lib
section
theorem less_total : ∀ l m : List UInt8, (Op.bytesLess l m || l == m) = !Op.bytesLess m l := by
  intro l
  induction l with
  | nil => intro m; cases m <;> simp [Op.bytesLess]
  | cons x l ih =>
    intro m
    cases m with
    | nil => simp [Op.bytesLess]
    | cons y m =>
      have := ih m
      by_cases h : x = y
      · subst h; simpa [Op.bytesLess] using this
      · have h' : ¬ y = x := fun e => h e.symm
        rcases Nat.lt_or_gt_of_ne (fun e => h (UInt8.toNat_inj.1 e) : x.toNat ≠ y.toNat) with hl | hl
        · have h1 : x < y := UInt8.lt_iff_toNat_lt.2 hl
          have h2 : ¬ y < x := fun e => by have := UInt8.lt_iff_toNat_lt.1 e; omega
          simp [Op.bytesLess, h', h1, h2]
        · have h1 : y < x := UInt8.lt_iff_toNat_lt.2 hl
          have h2 : ¬ x < y := fun e => by have := UInt8.lt_iff_toNat_lt.1 e; omega
          simp [Op.bytesLess, h, h1, h2]
theorem leB_not (a b : ByteArray) : leB a b = !Op.bytesLess b.toList a.toList := less_total _ _
def RChkI (W : World) (pre : ByteArray) (l : List It) (i : Value) (w : World) : Prop :=
  ∃ j : Nat, i = .int .i64 (j : Int) ∧ j ≤ l.length ∧ firstErr (itF pre l) j = 0 ∧ Ext (fun _ => False) W w
theorem World.fresh (w : World) {W : World} (h : Ext (fun _ => False) W w) (x : Obj) (n : Nat) : Ext (fun _ => False) W ((w.alloc x).drewN n) := (h.alloc x).drewN n


set_option maxHeartbeats 2000000 in
set_option maxRecDepth 100000 in
theorem ref20_CheckLeaf (pre : ByteArray) (sl : List Sl) (it : List It) (A1 A2 : Option Addr) (c1 c2 : Nat) (w : World) (h2 : Row w A2 (flat itC it)) (hp : pre.size ≤ 31) {R : Ending → World → Prop}
    (hR : ∀ w', Below w.heap.size w w' → R (.returned (.int .i64 (checkR ⟨pre, true, sl, it⟩))) w') :
    Calls Try.prog 67 #[.agg #[.string pre, .bool true, .slice A1 sl.length c1, .slice A2 it.length c2]] w R := by
  have hx0 : Ext (fun _ => False) w (w.alloc (.cells #[.string pre, .bool true, .slice A1 sl.length c1, .slice A2 it.length c2] 27)) := (Ext.refl _ _).alloc _
  have HB := Blk.new w 27 #[.string pre, .bool true, .slice A1 sl.length c1, .slice A2 it.length c2]
  have H2 := h2.alloc (.cells #[.string pre, .bool true, .slice A1 sl.length c1, .slice A2 it.length c2] 27)
  have HR := Lib.hid hR
  clear hR h2
  have hs1 : (0 : Int) ≤ (sl.length : Int) := Int.natCast_nonneg _
  have hs2 : (0 : Int) ≤ (it.length : Int) := Int.natCast_nonneg _
  have hp' : ¬ 31 < pre.size := by omega
  have hpi : ¬ (31 : Int) < (pre.size : Int) := by omega
  have hpd : decide ((31 : Int) < (pre.size : Int)) = false := decide_eq_false hpi
  by_cases hs : 0 < sl.length
  · have hsi : (0 : Int) < (sl.length : Int) := by omega
    have he : checkR ⟨pre, true, sl, it⟩ = 1 := by unfold checkR checkA; simp [hp', hs]
    rw [he] at HR
    go_enter Try.func67, Try.ntmps67
    go_wp2_with fail
    exact HR.out _ (((Ext.refl (fun _ => False) w).alloc _).below (Nat.le_refl _) (fun _ _ h => h))
  have hsi : ¬ (0 : Int) < (sl.length : Int) := by omega
  have hsd : decide ((0 : Int) < (sl.length : Int)) = false := decide_eq_false hsi
  by_cases hi : 8 < it.length
  · have hii : (8 : Int) < (it.length : Int) := by omega
    have he : checkR ⟨pre, true, sl, it⟩ = 3 := by unfold checkR checkA; simp [hp', hs, hi]
    rw [he] at HR
    go_enter Try.func67, Try.ntmps67
    go_wp2_with fail
    exact HR.out _ (((Ext.refl (fun _ => False) w).alloc _).below (Nat.le_refl _) (fun _ _ h => h))
  have hii : ¬ (8 : Int) < (it.length : Int) := by omega
  have hid : decide ((8 : Int) < (it.length : Int)) = false := decide_eq_false hii
  have hil : it.length ≤ 8 := by omega
  have hca : checkA ⟨pre, true, sl, it⟩ = 0 := by unfold checkA; simp [hp', hi, hs]
  have HCA := Lib.hid hca
  clear hca
  go_enter Try.func67, Try.ntmps67
  go_wp2_with fail
  generalize hw1 : w.alloc (.cells #[.string pre, .bool true, .slice A1 sl.length c1, .slice A2 it.length c2] 27) = w1 at *
  generalize hbk : w.heap.size = bp at *
  have HBP := HB
  clear HB hw1
  have hse : sl.length = 0 := by omega
  have hcr : checkR ⟨pre, true, sl, it⟩ = firstErr (itF pre it) it.length := by
    unfold checkR
    rw [if_neg (fun h => h HCA.out)]
    split
    · rfl
    · next h => rw [hse]; exact (Decidable.not_not.1 h).symm
  rw [hcr] at HR
  clear hcr HCA hi hs hsi hsd hp hp' hpi hpd hii hid hse
  go_loopw [3] (RChkI w1 pre it) (fun i _ => it.length - (RowKit.intOf i).toNat)
  case atStart => exact ⟨0, rfl, Nat.zero_le _, rfl, Ext.refl _ _⟩
  case round =>
    obtain ⟨j, rfl, hj, hfe, hx⟩ := hrel
    have hj0 : (0 : Int) ≤ (j : Int) := Int.natCast_nonneg _
    have hbp := HBP.ext hx id
    have p3 := hbp.cell 3
    dsimp at p3
    clear hbp
    by_cases hlt : j < it.length
    · have hj1 : (j : Int) < (it.length : Int) := by omega
      have hjd : decide (j < it.length) = true := by simpa using hlt
      have hrw := H2.ext hx (fun _ _ _ => id)
      obtain ⟨b, o, rfl, hb, d0, d1⟩ := hrw.it j hlt
      obtain ⟨⟨k, m⟩, hkm⟩ : ∃ x, it.getD j (emp, emp) = x := ⟨_, rfl⟩
      rw [hkm] at d0 d1
      dsimp only at d0 d1
      have hitf : itF pre it j = itemR pre (lastK it j) (decide (j = 0)) (k, m) := by unfold itF; rw [hkm]
      unfold itemR at hitf
      dsimp only at hitf
      have hxb := hx.alloc (.cells #[.string k, .string m] 38)
      have hba := Blk.new wr 38 #[.string k, .string m]
      have HFE := Lib.hid hfe
      have HITF := Lib.hid hitf
      clear hrw hkm hitf hfe
      go_upto_region 12 with fail
      generalize hwa : wr.alloc (.cells #[.string k, .string m] 38) = wa at *
      generalize hbx : wr.heap.size = bx at *
      clear hwa hbx hx d0 d1 p3
      have q0 := hba.cell 0
      dsimp at q0
      by_cases hk : k.size = 32
      · have hkb : ((k.size : Int) != 32) = false := by simp [hk]
        have hbp := HBP.ext hxb id
        have p0 := hbp.cell 0
        dsimp at p0
        clear hbp
        go_wp2_with fail
        refine (ref20_Begins k pre wa).mono ?_
        rintro e w' ⟨rfl, nq, rfl⟩
        have hba : Blk (wa.drewN nq) bx _ _ := hba
        have hxb : Ext (fun _ => False) w1 (wa.drewN nq) := hxb.drewN nq
        clear q0 p0 hkb
        generalize wa.drewN nq = wb at *
        have q0 := hba.cell 0
        have q1 := hba.cell 1
        dsimp at q0 q1
        cases hB : beginsR k pre
        · have hst : firstErr (itF pre it) it.length = 18 := by
            have hv : itF pre it j = 18 := by rw [HITF.out, if_neg (fun h => h hk), if_pos hB]
            rw [firstErr_stop HFE.out (by rw [hv]; decide) it.length hlt, hv]
          rw [hst] at HR
          clear hst hB
          go_wp2_with fail
          exact HR.out _ ((hx0.trans hxb (fun _ _ h => h)).below (Nat.le_of_eq hbk.symm) (fun _ _ h => h))
        · by_cases hjz : j = 0
          · have hz1 : ¬ (0 : Int) < (j : Int) := by omega
            have hz2 : decide ((0 : Int) < (j : Int)) = false := decide_eq_false hz1
            have hz3 : ¬ 0 < j := by omega
            have hz4 : decide (0 < j) = false := decide_eq_false hz3
            have hv : itF pre it j = if m.size ≠ 32 then 1 else 0 := by
              rw [HITF.out, if_neg (fun h => h hk), if_neg (by rw [hB]; decide), if_neg (fun h => by have := h.1; simp [hjz] at this)]
            have HV := Lib.hid hv
            clear hv hB hk HITF hjz
            go_wp2_with fail
            go_quiet (fail)
            clear hz1 hz2 hz3 hz4
            have hxb : Ext (fun _ => False) w1 (wb.drewN nq) := hxb.drewN nq
            by_cases hm : m.size = 32
            · have hmb : ((m.size : Int) != 32) = false := by simp [hm]
              have hnx : firstErr (itF pre it) (j + 1) = 0 := firstErr_step HFE.out (by rw [HV.out, if_neg (fun h => h hm)])
              have HNX := Lib.hid hnx
              clear hnx hm
              go_wp2_with fail
              go_wp2
              go_roundw
              case rel => exact ⟨j + 1, by go_num, by omega, HNX.out, hxb⟩
              case measure => simp [RowKit.intOf]; omega
            · have hmb : ((m.size : Int) != 32) = true := by
                have : ¬ (m.size : Int) = 32 := by omega
                simpa using this
              have hst : firstErr (itF pre it) it.length = 1 := by rw [firstErr_stop HFE.out (by rw [HV.out, if_pos hm]; decide) it.length hlt, HV.out, if_pos hm]
              rw [hst] at HR
              clear hst hm
              go_wp2_with fail
              exact HR.out _ ((hx0.trans hxb (fun _ _ h => h)).below (Nat.le_of_eq hbk.symm) (fun _ _ h => h))
          · have hz1 : (0 : Int) < (j : Int) := by omega
            have hz2 : decide ((0 : Int) < (j : Int)) = true := decide_eq_true hz1
            have hz3 : 0 < j := by omega
            have hz4 : decide (0 < j) = true := decide_eq_true hz3
            have hjw : wrap64 ((j : Int) - 1) = ((j - 1 : Nat) : Int) := by
              have e : (j : Int) - 1 = ((j - 1 : Nat) : Int) := by omega
              rw [e]; unfold wrap64; omega
            have hjl : ((j - 1 : Nat) : Int) < (it.length : Int) := by omega
            have hjn : (0 : Int) ≤ ((j - 1 : Nat) : Int) := Int.natCast_nonneg _
            have hrw := H2.ext hxb (fun _ _ _ => id)
            obtain ⟨b', o', he', hb', e0, e1⟩ := hrw.it (j - 1) (by omega)
            cases he'
            obtain ⟨k', hk'⟩ : ∃ x, (it.getD (j - 1) (emp, emp)).1 = x := ⟨_, rfl⟩
            have hks : k'.size = 32 := by rw [← hk']; exact (itF_zero (firstErr_zero HFE.out (j - 1) (by omega))).1
            have hlk : lastK it j = k' := by unfold lastK; rw [if_neg hjz, hk']
            rw [hk'] at e0
            have hbp := HBP.ext hxb id
            have p3 := hbp.cell 3
            dsimp at p3
            have hle := leB_not k k'
            have hv : itF pre it j = if leB k k' = true then 6 else if m.size ≠ 32 then 1 else 0 := by
              rw [HITF.out, if_neg (fun h => h hk), if_neg (by rw [hB]; decide), hlk, show decide (j = 0) = false from decide_eq_false hjz]
              simp
            rw [hle] at hv
            have HV := Lib.hid hv
            clear hv hB hk HITF hjz hle hlk hk' hrw hbp e1
            cases hL : Op.bytesLess k'.toList k.toList
            · have hst : firstErr (itF pre it) it.length = 6 := by
                have hv : itF pre it j = 6 := by rw [HV.out, hL]; rfl
                rw [firstErr_stop HFE.out (by rw [hv]; decide) it.length hlt, hv]
              rw [hst] at HR
              clear hst
              go_wp2_with fail
              go_quiet ((first
                | (go_at_call 30; exact quiet_d (ref06_Below k' k _ (by omega)))))
              go_wp2_with fail
              exact HR.out _ ((hx0.trans (hxb.drewN nq) (fun _ _ h => h)).below (Nat.le_of_eq hbk.symm) (fun _ _ h => h))
            · have hv := HV.out
              rw [hL, if_neg (by decide)] at hv
              have HV2 := Lib.hid hv
              clear hv HV
              go_wp2_with fail
              go_quiet ((first
                | (go_at_call 30; exact quiet_d (ref06_Below k' k _ (by omega)))))
              have hxb : Ext (fun _ => False) w1 (wb.drewN nq) := hxb.drewN nq
              clear hz1 hz2 hz3 hz4 hjw hjl hjn e0 p3 hL
              by_cases hm : m.size = 32
              · have hmb : ((m.size : Int) != 32) = false := by simp [hm]
                have hnx : firstErr (itF pre it) (j + 1) = 0 := firstErr_step HFE.out (by rw [HV2.out, if_neg (fun h => h hm)])
                have HNX := Lib.hid hnx
                clear hnx hm
                go_wp2_with fail
                go_wp2
                go_roundw
                case rel => exact ⟨j + 1, by go_num, by omega, HNX.out, hxb⟩
                case measure => simp [RowKit.intOf]; omega
              · have hmb : ((m.size : Int) != 32) = true := by
                  have : ¬ (m.size : Int) = 32 := by omega
                  simpa using this
                have hst : firstErr (itF pre it) it.length = 1 := by rw [firstErr_stop HFE.out (by rw [HV2.out, if_pos hm]; decide) it.length hlt, HV2.out, if_pos hm]
                rw [hst] at HR
                clear hst hm
                go_wp2_with fail
                exact HR.out _ ((hx0.trans hxb (fun _ _ h => h)).below (Nat.le_of_eq hbk.symm) (fun _ _ h => h))
      · have hkb : ((k.size : Int) != 32) = true := by
          have : ¬ (k.size : Int) = 32 := by omega
          simpa using this
        have hst : firstErr (itF pre it) it.length = 1 := by
          have hv : itF pre it j = 1 := by rw [HITF.out, if_pos hk]
          rw [firstErr_stop HFE.out (by rw [hv]; decide) it.length hlt, hv]
        rw [hst] at HR
        clear hst hk
        go_wp2_with fail
        exact HR.out _ ((hx0.trans hxb (fun _ _ h => h)).below (Nat.le_of_eq hbk.symm) (fun _ _ h => h))
    · have hje : j = it.length := by omega
      have hj1 : ¬ (j : Int) < (it.length : Int) := by omega
      have hjd : decide (j < it.length) = false := by simpa using hlt
      rw [hje] at hfe
      rw [hfe] at HR
      clear hje hfe
      go_wp2_with fail
      exact HR.out _ ((hx0.trans hx (fun _ _ h => h)).below (Nat.le_of_eq hbk.symm) (fun _ _ h => h))


set_option maxHeartbeats 2000000 in
set_option maxRecDepth 100000 in
theorem ref20_CheckSlots (pre : ByteArray) (sl : List Sl) (it : List It) (A1 A2 : Option Addr) (c1 c2 : Nat) (w : World) (h1 : Row w A1 (flat slC sl)) (hp : pre.size ≤ 31) {R : Ending → World → Prop}
    (hR : ∀ w', Below w.heap.size w w' → R (.returned (.int .i64 (checkR ⟨pre, false, sl, it⟩))) w') :
    Calls Try.prog 67 #[.agg #[.string pre, .bool false, .slice A1 sl.length c1, .slice A2 it.length c2]] w R := by
  have hx0 : Ext (fun _ => False) w (w.alloc (.cells #[.string pre, .bool false, .slice A1 sl.length c1, .slice A2 it.length c2] 27)) := (Ext.refl _ _).alloc _
  have HB := Blk.new w 27 #[.string pre, .bool false, .slice A1 sl.length c1, .slice A2 it.length c2]
  have H1 := h1.alloc (.cells #[.string pre, .bool false, .slice A1 sl.length c1, .slice A2 it.length c2] 27)
  have HR := Lib.hid hR
  clear hR h1
  have hs1 : (0 : Int) ≤ (sl.length : Int) := Int.natCast_nonneg _
  have hs2 : (0 : Int) ≤ (it.length : Int) := Int.natCast_nonneg _
  have hp' : ¬ 31 < pre.size := by omega
  have hpi : ¬ (31 : Int) < (pre.size : Int) := by omega
  have hpd : decide ((31 : Int) < (pre.size : Int)) = false := decide_eq_false hpi
  by_cases hi : 0 < it.length
  · have hii : (0 : Int) < (it.length : Int) := by omega
    have he : checkR ⟨pre, false, sl, it⟩ = 1 := by unfold checkR checkA; simp [hp', hi]
    rw [he] at HR
    go_enter Try.func67, Try.ntmps67
    go_wp2_with fail
    exact HR.out _ (((Ext.refl (fun _ => False) w).alloc _).below (Nat.le_refl _) (fun _ _ h => h))
  have hii : ¬ (0 : Int) < (it.length : Int) := by omega
  have hid : decide ((0 : Int) < (it.length : Int)) = false := decide_eq_false hii
  by_cases hs : 256 < sl.length
  · have hsi : (256 : Int) < (sl.length : Int) := by omega
    have he : checkR ⟨pre, false, sl, it⟩ = 3 := by unfold checkR checkA; simp [hp', hi, hs]
    rw [he] at HR
    go_enter Try.func67, Try.ntmps67
    go_wp2_with fail
    exact HR.out _ (((Ext.refl (fun _ => False) w).alloc _).below (Nat.le_refl _) (fun _ _ h => h))
  have hsi : ¬ (256 : Int) < (sl.length : Int) := by omega
  have hsd : decide ((256 : Int) < (sl.length : Int)) = false := decide_eq_false hsi
  by_cases hz : sl.length = 0
  · have hzi : ((sl.length : Int) == 0) = true := by simpa using hz
    have he : checkR ⟨pre, false, sl, it⟩ = 7 := by unfold checkR checkA; simp [hp', hi, hz]
    rw [he] at HR
    go_enter Try.func67, Try.ntmps67
    go_wp2_with fail
    exact HR.out _ (((Ext.refl (fun _ => False) w).alloc _).below (Nat.le_refl _) (fun _ _ h => h))
  have hzi : ((sl.length : Int) == 0) = false := by simpa using hz
  have hil : sl.length ≤ 256 := by omega
  have hca : checkA ⟨pre, false, sl, it⟩ = 0 := by unfold checkA; simp [hp', hi, hs, hz]
  have HCA := Lib.hid hca
  clear hca
  go_enter Try.func67, Try.ntmps67
  go_wp2_with fail
  generalize hw1 : w.alloc (.cells #[.string pre, .bool false, .slice A1 sl.length c1, .slice A2 it.length c2] 27) = w1 at *
  generalize hbk : w.heap.size = bp at *
  have HBP := HB
  clear HB hw1
  have hie : it.length = 0 := by omega
  have hfi : firstErr (itF pre it) it.length = 0 := by rw [hie]; rfl
  have hcr : checkR ⟨pre, false, sl, it⟩ = firstErr (slF sl) sl.length := by unfold checkR; rw [if_neg (fun h => h HCA.out), if_neg (fun h => h hfi)]
  rw [hcr] at HR
  clear hcr HCA hi hs hsi hsd hp hp' hpi hpd hii hid hie hfi hz hzi
  go_loopw [5] (ChkS w1 sl) (fun i _ => sl.length - (RowKit.intOf i).toNat)
  case atStart => exact ⟨0, rfl, Nat.zero_le _, rfl, Ext.refl _ _⟩
  case round =>
    obtain ⟨j, rfl, hj, hfe, hx⟩ := hrel
    have hj0 : (0 : Int) ≤ (j : Int) := Int.natCast_nonneg _
    have hbp := HBP.ext hx id
    have p2 := hbp.cell 2
    dsimp at p2
    clear hbp
    by_cases hlt : j < sl.length
    · have hj1 : (j : Int) < (sl.length : Int) := by omega
      have hjd : decide (j < sl.length) = true := by simpa using hlt
      have hrw := H1.ext hx (fun _ _ _ => id)
      obtain ⟨b, o, rfl, hb, d0, d1⟩ := hrw.sl j hlt
      obtain ⟨⟨k, m⟩, hkm⟩ : ∃ x, sl.getD j (0, emp) = x := ⟨_, rfl⟩
      rw [hkm] at d0 d1
      dsimp only at d0 d1
      have hslf : slF sl j = if 0 < j ∧ k ≤ (sl.getD (j - 1) (0, emp)).1 then 6 else if m.size ≠ 32 then 1 else 0 := by unfold slF; rw [hkm]
      have HFE := Lib.hid hfe
      by_cases hjz : j = 0
      · have hz1 : ¬ (0 : Int) < (j : Int) := by omega
        have hz2 : decide ((0 : Int) < (j : Int)) = false := decide_eq_false hz1
        have hz3 : ¬ 0 < j := by omega
        have hz4 : decide (0 < j) = false := decide_eq_false hz3
        rw [if_neg (fun h => hz3 h.1)] at hslf
        have HV := Lib.hid hslf
        clear hslf hjz hkm hrw hfe
        go_wp2_with fail
        go_quiet (fail)
        clear hz1 hz2 hz3 hz4
        have hxb : Ext (fun _ => False) w1 (wr.drewN nq) := hx.drewN nq
        by_cases hm : m.size = 32
        · have hmb : ((m.size : Int) != 32) = false := by simp [hm]
          have hnx : firstErr (slF sl) (j + 1) = 0 := firstErr_step HFE.out (by rw [HV.out, if_neg (fun h => h hm)])
          have HNX := Lib.hid hnx
          clear hnx hm
          go_wp2_with fail
          go_wp2
          go_roundw
          case rel => exact ⟨j + 1, by go_num, by omega, HNX.out, hxb⟩
          case measure => simp [RowKit.intOf]; omega
        · have hmb : ((m.size : Int) != 32) = true := by
            have : ¬ (m.size : Int) = 32 := by omega
            simpa using this
          have hst : firstErr (slF sl) sl.length = 1 := by rw [firstErr_stop HFE.out (by rw [HV.out, if_pos hm]; decide) sl.length hlt, HV.out, if_pos hm]
          rw [hst] at HR
          clear hst hm
          go_wp2_with fail
          exact HR.out _ ((hx0.trans hxb (fun _ _ h => h)).below (Nat.le_of_eq hbk.symm) (fun _ _ h => h))
      · have hz1 : (0 : Int) < (j : Int) := by omega
        have hz2 : decide ((0 : Int) < (j : Int)) = true := decide_eq_true hz1
        have hz3 : 0 < j := by omega
        have hz4 : decide (0 < j) = true := decide_eq_true hz3
        have hjw : wrap64 ((j : Int) - 1) = ((j - 1 : Nat) : Int) := by
          have e : (j : Int) - 1 = ((j - 1 : Nat) : Int) := by omega
          rw [e]; unfold wrap64; omega
        have hjl : ((j - 1 : Nat) : Int) < (sl.length : Int) := by omega
        have hjn : (0 : Int) ≤ ((j - 1 : Nat) : Int) := Int.natCast_nonneg _
        obtain ⟨b', o', he', hb', e0, e1⟩ := hrw.sl (j - 1) (by omega)
        cases he'
        obtain ⟨k', hk'⟩ : ∃ x, (sl.getD (j - 1) (0, emp)).1 = x := ⟨_, rfl⟩
        rw [hk'] at e0 hslf
        clear e1 hrw hk' hkm hjz hfe
        by_cases hkk : k ≤ k'
        · have hkd : decide (k ≤ k') = true := decide_eq_true hkk
          rw [if_pos ⟨hz3, hkk⟩] at hslf
          have hst : firstErr (slF sl) sl.length = 6 := by rw [firstErr_stop HFE.out (by rw [hslf]; decide) sl.length hlt, hslf]
          rw [hst] at HR
          clear hst hslf
          go_wp2_with fail
          go_quiet (fail)
          go_wp2_with fail
          exact HR.out _ ((hx0.trans (hx.drewN nq) (fun _ _ h => h)).below (Nat.le_of_eq hbk.symm) (fun _ _ h => h))
        · have hkd : decide (k ≤ k') = false := decide_eq_false hkk
          rw [if_neg (fun h => hkk h.2)] at hslf
          have HV := Lib.hid hslf
          clear hslf
          go_wp2_with fail
          go_quiet (fail)
          clear hz1 hz2 hz3 hz4 hjw hjl hjn e0 hkk hkd
          have hxb : Ext (fun _ => False) w1 (wr.drewN nq) := hx.drewN nq
          by_cases hm : m.size = 32
          · have hmb : ((m.size : Int) != 32) = false := by simp [hm]
            have hnx : firstErr (slF sl) (j + 1) = 0 := firstErr_step HFE.out (by rw [HV.out, if_neg (fun h => h hm)])
            have HNX := Lib.hid hnx
            clear hnx hm
            go_wp2_with fail
            go_wp2
            go_roundw
            case rel => exact ⟨j + 1, by go_num, by omega, HNX.out, hxb⟩
            case measure => simp [RowKit.intOf]; omega
          · have hmb : ((m.size : Int) != 32) = true := by
              have : ¬ (m.size : Int) = 32 := by omega
              simpa using this
            have hst : firstErr (slF sl) sl.length = 1 := by rw [firstErr_stop HFE.out (by rw [HV.out, if_pos hm]; decide) sl.length hlt, HV.out, if_pos hm]
            rw [hst] at HR
            clear hst hm
            go_wp2_with fail
            exact HR.out _ ((hx0.trans hxb (fun _ _ h => h)).below (Nat.le_of_eq hbk.symm) (fun _ _ h => h))
    · have hje : j = sl.length := by omega
      have hj1 : ¬ (j : Int) < (sl.length : Int) := by omega
      have hjd : decide (j < sl.length) = false := by simpa using hlt
      rw [hje] at hfe
      rw [hfe] at HR
      clear hje hfe
      go_wp2_with fail
      exact HR.out _ ((hx0.trans hx (fun _ _ h => h)).below (Nat.le_of_eq hbk.symm) (fun _ _ h => h))

set_option maxRecDepth 100000 in
theorem ref20_Check (g : PgV) (A1 A2 : Option Addr) (c1 c2 : Nat) (w : World) (h1 : Row w A1 (flat slC g.sl)) (h2 : Row w A2 (flat itC g.it)) {R : Ending → World → Prop}
    (hR : ∀ w', Below w.heap.size w w' → R (.returned (.int .i64 (checkR g))) w') :
    Calls Try.prog 67 #[.agg #[.string g.pre, .bool g.leaf, .slice A1 g.sl.length c1, .slice A2 g.it.length c2]] w R := by
  obtain ⟨pre, leaf, sl, it⟩ := g
  by_cases hp : 31 < pre.size
  · have hpi : (31 : Int) < (pre.size : Int) := by omega
    have he : checkR ⟨pre, leaf, sl, it⟩ = 3 := by unfold checkR checkA; simp [hp]
    rw [he] at hR
    have HR := Lib.hid hR
    clear hR
    dsimp only
    go_enter Try.func67, Try.ntmps67
    go_wp2_with fail
    exact HR.out _ (((Ext.refl (fun _ => False) w).alloc _).below (Nat.le_refl _) (fun _ _ h => h))
  · cases leaf
    · exact ref20_CheckSlots pre sl it A1 A2 c1 c2 w h1 (by omega) hR
    · exact ref20_CheckLeaf pre sl it A1 A2 c1 c2 w h2 (by omega) hR
end
end Go.Proofs.Ytlkjonlipnmbnaa
