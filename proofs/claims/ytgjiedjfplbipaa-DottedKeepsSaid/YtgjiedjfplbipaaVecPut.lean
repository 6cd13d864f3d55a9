/- spenceref10.Put, plainly. -/
import Derived.Test.YtgjiedjfplbipaaVecPlain
import Derived.Deep.DeepCutAuto
import Derived.Test.YtgjiedjfplbipaaPairRWith
import Derived.Test.YtgjiedjfplbipaaLaw10Events
namespace Go.Proofs.Ytgjiedjfplbipaa
section
def pStep (x : En) (q : List En × Bool) (y : En) : List En × Bool :=
  if q.2 = false ∧ ltB y.1 x.1 = false then (if y.1 ≠ x.1 then ((q.1 ++ [x]) ++ [y], true) else if y.2 < x.2 then (q.1 ++ [x], true) else (q.1 ++ [y], true)) else (q.1 ++ [y], q.2)
theorem pStep_true {x : En} : ∀ (l p : List En), l.foldl (pStep x) (p, true) = (p ++ l, true)
  | [], p => by simp
  | y :: l, p => by
    have h1 : pStep x (p, true) y = (p ++ [y], true) := by unfold pStep; rw [if_neg (by simp)]
    rw [List.foldl_cons, h1, pStep_true l]
    simp
def pEnd (x : En) (q : List En × Bool) : List En := if q.2 = true then q.1 else q.1 ++ [x]
theorem pFold {x : En} (hx : 0 ≤ x.2) : ∀ (l p : List En), Srt kE l → pEnd x (l.foldl (pStep x) (p, false)) = p ++ putJ l x
  | [], p, _ => by
    have : max (0 : Int) x.2 = x.2 := by omega
    simp only [List.foldl_nil, pEnd, putJ, cntR, this, insK]
    rfl
  | y :: l, p, h => by
    rw [List.foldl_cons]
    by_cases h1 : ltB y.1 x.1 = true
    · have hs : pStep x (p, false) y = (p ++ [y], false) := by
        unfold pStep
        rw [if_neg (fun c => by rw [h1] at c; exact absurd c.2 (by decide))]
      have hne : ¬ y.1 = x.1 := ltB_ne h1
      rw [hs, pFold hx l _ h.2]
      unfold putJ
      rw [insE_cons, if_pos h1, cntR, if_neg hne]
      simp
    · have h1' : ltB y.1 x.1 = false := by simpa using h1
      by_cases h2 : y.1 = x.1
      · have hc : cntR x.1 (y :: l) = y.2 := by rw [cntR, if_pos h2]
        unfold putJ
        rw [hc, insE_cons, if_neg h1, if_pos h2]
        by_cases h3 : y.2 < x.2
        · have hs : pStep x (p, false) y = (p ++ [x], true) := by
            unfold pStep
            rw [if_pos ⟨rfl, h1'⟩, if_neg (fun c => c h2), if_pos h3]
          have hm : max y.2 x.2 = x.2 := by omega
          rw [hs, pStep_true, hm]
          simp [pEnd]
        · have hs : pStep x (p, false) y = (p ++ [y], true) := by
            unfold pStep
            rw [if_pos ⟨rfl, h1'⟩, if_neg (fun c => c h2), if_neg h3]
          have hm : max y.2 x.2 = y.2 := by omega
          rw [hs, pStep_true, hm, ← h2]
          simp [pEnd]
      · have hs : pStep x (p, false) y = ((p ++ [x]) ++ [y], true) := by
          unfold pStep
          rw [if_pos ⟨rfl, h1'⟩, if_pos h2]
        have hlt : ltB x.1 y.1 = true := ltB_tri h1' h2
        have hm : max (0 : Int) x.2 = x.2 := by omega
        unfold putJ
        rw [cnt_less h hlt, hs, pStep_true, hm, insE_cons, if_neg h1, if_neg h2]
        simp [pEnd]
theorem pStep_len (x : En) : ∀ (l : List En) (q : List En × Bool), (l.foldl (pStep x) q).1.length ≤ q.1.length + 2 * l.length
  | [], q => by simp
  | y :: l, q => by
    rw [List.foldl_cons]
    have := pStep_len x l (pStep x q y)
    have h2 : (pStep x q y).1.length ≤ q.1.length + 2 := by
      unfold pStep
      split
      · split
        · simp
        · split <;> simp
      · simp
    simp only [List.length_cons]
    omega
theorem pStep_snoc (x : En) (l : List En) (j : Nat) (h : j < l.length) (q : List En × Bool) : (l.take (j + 1)).foldl (pStep x) q = pStep x ((l.take j).foldl (pStep x) q) (l.getD j (emp, 0)) := by
  rw [take_snoc l j (emp, 0) h, List.foldl_append]; rfl
end
end Go.Proofs.Ytgjiedjfplbipaa
/- spenceref10.Put. -/
namespace Go.Proofs.Ytgjiedjfplbipaa
open Go.RowKit Go.Lib
section
set_option maxHeartbeats 4000000 in
set_option maxRecDepth 100000 in
theorem ref10_PutO (l : List En) (A : Option Addr) (c : Nat) (k : ByteArray) (m : Int) (w : World) (h : Row w A (flat enC l)) (hl : l.length ≤ 1000000) (hsrt : Srt kE l) (hm : 0 ≤ m) (hsm : ∀ x ∈ l, x.1.size ≤ 32) {R : Ending → World → Prop}
    (hR : ∀ A c w', Own w' w.heap.size 82 2 enC (.slice A (putJ l (k, m)).length c) (putJ l (k, m)) → Below w.heap.size w w' → R (.returned (.slice A (putJ l (k, m)).length c)) w') :
    Calls Try.prog 91 #[.slice A l.length c, .agg #[.string k, .int .u64 m]] w R := by
  obtain ⟨i0, hi0, hI0, hI1, hI2⟩ := info_parts info_en
  have HR := Lib.hid hR
  have HSRT := Lib.hid hsrt
  have HM := Lib.hid hm
  have HSM := Lib.hid hsm
  clear hR hsrt hm hsm
  have hl0 : (0 : Int) ≤ (l.length : Int) := Int.natCast_nonneg _
  go_enter Try.func91, Try.ntmps91
  go_upto_region 1 with fail
  have hbk := Blk.new w 82 #[.string k, .int .u64 m]
  have hba := (Below.refl w.heap.size w).alloc (Nat.le_refl _) (.cells #[.string k, .int .u64 m] 82)
  generalize w.alloc (.cells #[.string k, .int .u64 m] 82) = wa at *
  obtain ⟨bx, hbe⟩ : ∃ b, w.heap.size = b := ⟨_, rfl⟩
  rw [hbe] at hbk ⊢
  have q0 := hbk.cell 0
  have q1 := hbk.cell 1
  dsimp at q0 q1
  have HBE := Lib.hid hbe
  have HBA := Lib.hid hba
  replace h := h.below hba (Nat.le_refl _)
  clear hbe hbk hba
  go_wp2_with fail
  go_loopw [5, 6, 7] (fun s5 s6 s7 wx => ∃ (q : Nat) (P : List En) (A4 : Option Addr) (c4 : Nat) (inb : Bool), s5 = .slice A4 P.length c4 ∧ s6 = .bool inb ∧ s7 = .int .i64 (q : Int) ∧ q ≤ l.length ∧ Hid ((l.take q).foldl (pStep (k, m)) ([], false) = (P, inb)) ∧ Own wx wa.heap.size 82 2 enC (.slice A4 P.length c4) P ∧ Below wa.heap.size wa wx) (fun _ _ i _ => l.length - (RowKit.intOf i).toNat)
  case atStart => exact ⟨0, [], none, 0, false, rfl, rfl, rfl, Nat.zero_le _, Lib.hid rfl, Own.nil _ _ _ _, Below.refl _ _⟩
  case round =>
    obtain ⟨q, P, A4, c4, inb, rfl, rfl, rfl, hq, HFO, hown, hb3⟩ := hrel
    have hq0 : (0 : Int) ≤ (q : Int) := Int.natCast_nonneg _
    have hPl : P.length ≤ 2 * l.length := by
      have z := pStep_len (k, m) (l.take q) ([], false)
      rw [HFO.out, List.length_take] at z
      simp at z
      omega
    by_cases hqt : q < l.length
    · have hq1 : (q : Int) < (l.length : Int) := by omega
      have hqd : decide ((q : Int) < (l.length : Int)) = true := decide_eq_true hq1
      obtain ⟨b1, o1, hA1, hb1, e0, e1⟩ := (h.below hb3 (Nat.le_refl _)).en q hqt
      have g0 := cell_below hb3 q0
      have g1 := cell_below hb3 q1
      have hst := pStep_snoc (k, m) l q hqt ([], false)
      have hks2 : (l.getD q (emp, 0)).1.size ≤ 32 := HSM.out _ (by rw [getD_at l q _ hqt]; exact List.getElem_mem hqt)
      obtain ⟨⟨k2, m2⟩, hk2⟩ : ∃ x, l.getD q (emp, 0) = x := ⟨_, rfl⟩
      rw [hk2] at e0 e1 hks2
      rw [HFO.out, hk2] at hst
      unfold pStep at hst
      dsimp only at hst e0 e1 hks2
      obtain ⟨t, ht⟩ : ∃ t, decide (inb = false ∧ ltB k2 k = false) = t := ⟨_, rfl⟩
      have HT := Lib.hid ht
      have HST := Lib.hid hst
      have hkb := toList_beq k2 k
      subst hA1
      have HK2 := Lib.hid hk2
      clear hst ht hk2
      go_upto_region 6 with fail
      go_cut [26] (fun s wx => s = .bool t ∧ ∃ n, wx = wr.drewN n)
      case first =>
        clear hkb
        cases inb
        · cases hL : Op.bytesLess k2.toList k.toList
          · obtain rfl : t = true := by rw [← HT.out]; unfold ltB; rw [hL]; rfl
            go_wp2_with fail
            go_quiet ((first
              | (go_at_call 71; exact quiet_d (ref06_Below k2 k _ (by omega)))))
            go_wp2_with fail
            go_meet
            exact ⟨rfl, _, rfl⟩
          · obtain rfl : t = false := by rw [← HT.out]; unfold ltB; rw [hL]; rfl
            go_wp2_with fail
            go_quiet ((first
              | (go_at_call 71; exact quiet_d (ref06_Below k2 k _ (by omega)))))
            go_wp2_with fail
            go_meet
            exact ⟨rfl, _, rfl⟩
        · obtain rfl : t = false := by rw [← HT.out]; rfl
          go_wp2_with fail
          go_quiet (fail)
          go_wp2_with fail
          go_meet
          exact ⟨rfl, _, rfl⟩
      case rest =>
      obtain ⟨rfl, n, rfl⟩ := hcut
      replace hown : Own (wr.drewN n) _ _ _ _ _ _ := hown
      replace hb3 := below_drewN hb3 n
      replace e0 : (wr.drewN n).cell? ⟨b1, o1 + q * 2, none⟩ = some (.string k2) := e0
      replace e1 : (wr.drewN n).cell? ⟨b1, o1 + q * 2 + 1, none⟩ = some (.int .u64 m2) := e1
      replace g0 : (wr.drewN n).cell? ⟨bx, 0, none⟩ = some (.string k) := g0
      replace g1 : (wr.drewN n).cell? ⟨bx, 1, none⟩ = some (.int .u64 m) := g1
      generalize wr.drewN n = wb at *
      have hlx : (P ++ [(k, m)]).length = P.length + 1 := by simp
      have hly : (P ++ [(k2, m2)]).length = P.length + 1 := by simp
      have HLX := Lib.hid hlx
      have HLY := Lib.hid hly
      clear hlx hly
      cases t
      · have hst := HST.out
        rw [if_neg (of_decide_eq_false HT.out)] at hst
        have HST := Lib.hid hst
        clear hst hkb
        go_wp2_with (first
          | (at_builtin; refine wpList_append_one rfl _ _ _ (by rfl) wa.heap.size 82 i0 _ 2 24 Try.underlying61 hi0 hI0 hI1 hI2 rfl (by decide) enC (.slice A4 (P).length c4) P (by rfl) ((hown).alloc _) (k2, m2) ⟨(wb).heap.size, 0, none⟩ 1 (by rfl) rfl ((Blk.new _ _ _).news rfl) (enC_one _) (by unfold maxLen; omega) (by omega) (Nat.le_trans (hb3).size (by simp)) ?_
             intro g9 c9 w9 hown9 hx9 hst9))
        have hb9 := below_ext ((hb3).alloc (hb3).size (.cells #[.string k2, .int .u64 m2] 82)) (Nat.le_refl _) hx9 (fun b e => ((hown).lt b e).1)
        go_roundw
        case rel => exact ⟨q + 1, P ++ [(k2, m2)], some ⟨g9, 0, none⟩, c9, inb, by rw [HLY.out], rfl, by go_num, by omega, HST, by rw [HLY.out]; exact hown9, hb9⟩
        case measure => simp [RowKit.intOf]; omega
      have hst := HST.out
      rw [if_pos (of_decide_eq_true HT.out)] at hst
      by_cases hk : k2 = k
      · rw [if_neg (fun c => c hk)] at hst
        rw [decide_eq_true hk] at hkb
        clear hk
        by_cases hc : m2 < m
        · have hcd : decide (m2 < m) = true := decide_eq_true hc
          rw [if_pos hc] at hst
          have HST := Lib.hid hst
          clear hst
          go_wp2_with fail
          go_quiet (fail)
          replace hown : Own (wb.drewN nq) _ _ _ _ _ _ := hown
          replace hb3 := below_drewN hb3 nq
          replace e0 : (wb.drewN nq).cell? ⟨b1, o1 + q * 2, none⟩ = some (.string k2) := e0
          replace e1 : (wb.drewN nq).cell? ⟨b1, o1 + q * 2 + 1, none⟩ = some (.int .u64 m2) := e1
          replace g0 : (wb.drewN nq).cell? ⟨bx, 0, none⟩ = some (.string k) := g0
          replace g1 : (wb.drewN nq).cell? ⟨bx, 1, none⟩ = some (.int .u64 m) := g1
          generalize wb.drewN nq = wd at *
          go_wp2_with fail
          go_quiet (fail)
          replace hown : Own (wd.drewN nq) _ _ _ _ _ _ := hown
          replace hb3 := below_drewN hb3 nq
          replace e0 : (wd.drewN nq).cell? ⟨b1, o1 + q * 2, none⟩ = some (.string k2) := e0
          replace e1 : (wd.drewN nq).cell? ⟨b1, o1 + q * 2 + 1, none⟩ = some (.int .u64 m2) := e1
          replace g0 : (wd.drewN nq).cell? ⟨bx, 0, none⟩ = some (.string k) := g0
          replace g1 : (wd.drewN nq).cell? ⟨bx, 1, none⟩ = some (.int .u64 m) := g1
          generalize wd.drewN nq = we at *
          go_wp2_with (first
            | (at_builtin; refine wpList_append_one rfl _ _ _ (by rfl) wa.heap.size 82 i0 _ 2 24 Try.underlying61 hi0 hI0 hI1 hI2 rfl (by decide) enC (.slice A4 (P).length c4) P (by rfl) ((hown).alloc _) (k, m) ⟨(we).heap.size, 0, none⟩ 1 (by rfl) rfl ((Blk.new _ _ _).news rfl) (enC_one _) (by unfold maxLen; omega) (by omega) (Nat.le_trans (hb3).size (by simp)) ?_
               intro g9 c9 w9 hown9 hx9 hst9))
          have hb9 := below_ext ((hb3).alloc (hb3).size (.cells #[.string k, .int .u64 m] 82)) (Nat.le_refl _) hx9 (fun b e => ((hown).lt b e).1)
          go_roundw
          case rel => exact ⟨q + 1, P ++ [(k, m)], some ⟨g9, 0, none⟩, c9, true, by rw [HLX.out], rfl, by go_num, by omega, HST, by rw [HLX.out]; exact hown9, hb9⟩
          case measure => simp [RowKit.intOf]; omega
        · have hcd : decide (m2 < m) = false := decide_eq_false hc
          rw [if_neg hc] at hst
          have HST := Lib.hid hst
          clear hst
          go_wp2_with fail
          go_quiet (fail)
          replace hown : Own (wb.drewN nq) _ _ _ _ _ _ := hown
          replace hb3 := below_drewN hb3 nq
          replace e0 : (wb.drewN nq).cell? ⟨b1, o1 + q * 2, none⟩ = some (.string k2) := e0
          replace e1 : (wb.drewN nq).cell? ⟨b1, o1 + q * 2 + 1, none⟩ = some (.int .u64 m2) := e1
          replace g0 : (wb.drewN nq).cell? ⟨bx, 0, none⟩ = some (.string k) := g0
          replace g1 : (wb.drewN nq).cell? ⟨bx, 1, none⟩ = some (.int .u64 m) := g1
          generalize wb.drewN nq = wd at *
          go_wp2_with fail
          go_quiet (fail)
          replace hown : Own (wd.drewN nq) _ _ _ _ _ _ := hown
          replace hb3 := below_drewN hb3 nq
          replace e0 : (wd.drewN nq).cell? ⟨b1, o1 + q * 2, none⟩ = some (.string k2) := e0
          replace e1 : (wd.drewN nq).cell? ⟨b1, o1 + q * 2 + 1, none⟩ = some (.int .u64 m2) := e1
          replace g0 : (wd.drewN nq).cell? ⟨bx, 0, none⟩ = some (.string k) := g0
          replace g1 : (wd.drewN nq).cell? ⟨bx, 1, none⟩ = some (.int .u64 m) := g1
          generalize wd.drewN nq = we at *
          go_wp2_with (first
            | (at_builtin; refine wpList_append_one rfl _ _ _ (by rfl) wa.heap.size 82 i0 _ 2 24 Try.underlying61 hi0 hI0 hI1 hI2 rfl (by decide) enC (.slice A4 (P).length c4) P (by rfl) ((hown).alloc _) (k2, m2) ⟨(we).heap.size, 0, none⟩ 1 (by rfl) rfl ((Blk.new _ _ _).news rfl) (enC_one _) (by unfold maxLen; omega) (by omega) (Nat.le_trans (hb3).size (by simp)) ?_
               intro g9 c9 w9 hown9 hx9 hst9))
          have hb9 := below_ext ((hb3).alloc (hb3).size (.cells #[.string k2, .int .u64 m2] 82)) (Nat.le_refl _) hx9 (fun b e => ((hown).lt b e).1)
          go_roundw
          case rel => exact ⟨q + 1, P ++ [(k2, m2)], some ⟨g9, 0, none⟩, c9, true, by rw [HLY.out], rfl, by go_num, by omega, HST, by rw [HLY.out]; exact hown9, hb9⟩
          case measure => simp [RowKit.intOf]; omega
      · rw [if_pos hk] at hst
        rw [decide_eq_false hk] at hkb
        obtain ⟨P1, hP1⟩ : ∃ P1, P ++ [(k, m)] = P1 := ⟨_, rfl⟩
        have hlx := HLX.out
        rw [hP1] at hst hlx
        have HST := Lib.hid hst
        have HL1 := Lib.hid hlx
        have hP1l : P1.length ≤ 2 * l.length + 1 := by omega
        have hlz : (P1 ++ [(k2, m2)]).length = P1.length + 1 := by simp
        have HLZ := Lib.hid hlz
        have HP1 := Lib.hid hP1
        clear hst hlx hlz hk hP1
        go_wp2_with fail
        go_quiet (fail)
        replace hown : Own (wb.drewN nq) _ _ _ _ _ _ := hown
        replace hb3 := below_drewN hb3 nq
        replace e0 : (wb.drewN nq).cell? ⟨b1, o1 + q * 2, none⟩ = some (.string k2) := e0
        replace e1 : (wb.drewN nq).cell? ⟨b1, o1 + q * 2 + 1, none⟩ = some (.int .u64 m2) := e1
        replace g0 : (wb.drewN nq).cell? ⟨bx, 0, none⟩ = some (.string k) := g0
        replace g1 : (wb.drewN nq).cell? ⟨bx, 1, none⟩ = some (.int .u64 m) := g1
        generalize wb.drewN nq = wd at *
        go_upto_region 12 with (first
          | (at_builtin; refine wpList_append_one rfl _ _ _ (by rfl) wa.heap.size 82 i0 _ 2 24 Try.underlying61 hi0 hI0 hI1 hI2 rfl (by decide) enC (.slice A4 P.length c4) P (by rfl) (hown.alloc _) (k, m) ⟨wd.heap.size, 0, none⟩ 1 (by rfl) rfl ((Blk.new _ _ _).news rfl) (enC_one _) (by unfold maxLen; omega) (by omega) (Nat.le_trans hb3.size (by simp)) ?_
             intro gB cB wB hownB hxB hstB))
        have hbB := below_ext (hb3.alloc hb3.size (.cells #[.string k, .int .u64 m] 82)) (Nat.le_refl _) hxB (fun b e => (hown.lt b e).1)
        rw [HP1.out] at hownB
        rw [← HL1.out] at hownB ⊢
        obtain ⟨b2, o2, hA2, hb2, d0, d1⟩ := (h.below hbB (Nat.le_refl _)).en q hqt
        cases hA2
        rw [HK2.out] at d0 d1
        dsimp only at d0 d1
        clear hxB hstB hown hb3 e0 e1 g0 g1
        go_wp2_with (first
          | (at_builtin; refine wpList_append_one rfl _ _ _ (by rfl) wa.heap.size 82 i0 _ 2 24 Try.underlying61 hi0 hI0 hI1 hI2 rfl (by decide) enC (.slice (some ⟨gB, 0, none⟩) (P1).length cB) P1 (by rfl) ((hownB).alloc _) (k2, m2) ⟨(wB).heap.size, 0, none⟩ 1 (by rfl) rfl ((Blk.new _ _ _).news rfl) (enC_one _) (by unfold maxLen; omega) (by omega) (Nat.le_trans (hbB).size (by simp)) ?_
             intro g9 c9 w9 hown9 hx9 hst9))
        have hb9 := below_ext ((hbB).alloc (hbB).size (.cells #[.string k2, .int .u64 m2] 82)) (Nat.le_refl _) hx9 (fun b e => ((hownB).lt b e).1)
        go_roundw
        case rel => exact ⟨q + 1, P1 ++ [(k2, m2)], some ⟨g9, 0, none⟩, c9, true, by rw [HLZ.out], rfl, by go_num, by omega, HST, by rw [HLZ.out]; exact hown9, hb9⟩
        case measure => simp [RowKit.intOf]; omega
    · have hq1 : ¬ (q : Int) < (l.length : Int) := by omega
      have hqd : decide ((q : Int) < (l.length : Int)) = false := decide_eq_false hq1
      have hqL : q = l.length := by omega
      have hend := pFold HM.out (x := (k, m)) l [] HSRT.out
      have hfo := HFO.out
      rw [hqL, List.take_length] at hfo
      rw [hfo, List.nil_append] at hend
      unfold pEnd at hend
      dsimp only at hend
      have HEND := Lib.hid hend
      have hbw := HBA.out.trans (hb3.mono HBA.out.size)
      clear hend hfo hqL HFO
      cases inb
      · have hlen : (P ++ [(k, m)]).length = P.length + 1 := by simp
        have HLEN := Lib.hid hlen
        have g0 := cell_below hb3 q0
        have g1 := cell_below hb3 q1
        have hend := HEND.out
        rw [if_neg (by decide)] at hend
        rw [← hend] at HR
        clear hlen hend HEND
        go_wp2_with (first
          | (at_builtin; refine wpList_append_one rfl _ _ _ (by rfl) wa.heap.size 82 i0 _ 2 24 Try.underlying61 hi0 hI0 hI1 hI2 rfl (by decide) enC (.slice A4 (P).length c4) P (by rfl) ((hown).alloc _) (k, m) ⟨(wr).heap.size, 0, none⟩ 1 (by rfl) rfl ((Blk.new _ _ _).news rfl) (enC_one _) (by unfold maxLen; omega) (by omega) (Nat.le_trans (hb3).size (by simp)) ?_
             intro g9 c9 w9 hown9 hx9 hst9))
        have hb9 := below_ext ((hb3).alloc (hb3).size (.cells #[.string k, .int .u64 m] 82)) (Nat.le_refl _) hx9 (fun b e => ((hown).lt b e).1)
        have hown9' := hown9
        rw [← HLEN.out] at hown9'
        have hbw5 := HBA.out.trans (hb9.mono HBA.out.size)
        have hr9 := hown9'.mono HBA.out.size
        have hfin := HR.out _ c9 _ hr9 hbw5
        rw [HLEN.out] at hfin
        exact hfin
      · have hend := HEND.out
        rw [if_pos rfl] at hend
        rw [← hend] at HR
        clear hend HEND
        go_wp2_with fail
        exact HR.out _ _ _ (hown.mono HBA.out.size) hbw
set_option maxRecDepth 100000 in
theorem ref10_Put (l : List En) (A : Option Addr) (c : Nat) (k : ByteArray) (m : Int) (w : World) (h : Row w A (flat enC l)) (hl : l.length ≤ 1000000) (hsrt : Srt kE l) (hm : 0 ≤ m) (hsm : ∀ x ∈ l, x.1.size ≤ 32) {R : Ending → World → Prop}
    (hR : ∀ A c w', Row w' A (flat enC (putJ l (k, m))) → Below w.heap.size w w' → R (.returned (.slice A (putJ l (k, m)).length c)) w') :
    Calls Try.prog 91 #[.slice A l.length c, .agg #[.string k, .int .u64 m]] w R :=
  ref10_PutO l A c k m w h hl hsrt hm hsm (fun A c w' ho hb => hR A c w' (Row.of_own ho) hb)
end
end Go.Proofs.Ytgjiedjfplbipaa
/- spenceref10.Event. -/
namespace Go.Proofs.Ytgjiedjfplbipaa
open Go.RowKit Go.Lib
section
theorem put_ev {v : List En} {k : ByteArray} (hc : checkE v = 0) (hv : ∀ x ∈ v, wfE x) (hn : namedR k = true) (hq : cntR k v ≠ 18446744073709551615) : putJ v (k, cntR k v + 1) = evL v k := by
  have vv := vok_of hc hv
  have hq0 := cnt_low hv k
  have hqw : (Lit.int .u64 (cntR k v)).wf = true := (⟨vv.srt, fun z hz => (vv.sm z hz).1, vv.wf⟩ : MapOk v).cnt k
  obtain ⟨_, w2⟩ := ev_wrap hqw hq
  have hnm := of_decide_eq_true hn
  have v0 : Vok [(k, cntR k v + 1)] := Vok.nil.ins (x := (k, cntR k v + 1)) (by show 0 < cntR k v + 1; omega) ⟨hnm.2, hnm.1⟩ w2
  refine vok_ext (vv.put (x := (k, cntR k v + 1)) (by show 0 < cntR k v + 1; omega) ⟨hnm.2, hnm.1⟩ w2) (addX_ok v0 vv) (fun n => ?_)
  unfold putJ evL
  rw [cnt_ins _ _ _ vv.srt]
  by_cases e : k = n
  · subst e
    rw [if_pos rfl, addX_own v0 vv, cntR, if_pos rfl]
    show max (cntR k v) (cntR k v + 1) = _
    omega
  · rw [if_neg e, addX_far (fun c => e c.symm) v0 vv]
    split
    · next h0 => rw [h0, cntR, if_neg e]; rfl
    · rfl
set_option maxHeartbeats 2000000 in
set_option maxRecDepth 100000 in
theorem ref10_Event (v : List En) (A : Option Addr) (c : Nat) (k : ByteArray) (w : World) (h : Row w A (flat enC v)) (hw : ∀ x ∈ v, wfE x) {R : Ending → World → Prop}
    (hR : ∀ A c w', Row w' A (flat enC (eventR v k).1) → Below w.heap.size w w' → R (.returned (.tuple #[.slice A (eventR v k).1.length c, .int .i64 (eventR v k).2])) w') (hl : v.length ≤ 140737488351232) :
    Calls Try.prog 49 #[.slice A v.length c, .string k] w R := by
  have HR := Lib.hid hR
  clear hR
  obtain ⟨ck, hck⟩ : ∃ z, checkE v = z := ⟨_, rfl⟩
  have HCK := Lib.hid hck
  clear hck
  go_enter Try.func49, Try.ntmps49
  go_wp2_with fail
  refine ref10_Check v A c w h ?_
  rw [show checkL 64 (enF v) v.length = ck from HCK.out]
  intro w1 hb1
  replace h := h.below hb1 (Nat.le_refl _)
  by_cases hz : ck = 0
  rotate_left
  · have hzb : (ck != 0) = true := by simpa using hz
    have he : eventR v k = ([], 1) := by unfold eventR; rw [if_neg (fun e => hz (HCK.out.symm.trans e.1))]
    rw [he] at HR
    clear he hz
    go_wp2_with fail
    exact HR.out none 0 _ (Row.nil _ _) hb1
  have hc := HCK.out.trans hz
  have HC := Lib.hid hc
  subst hz
  clear hc HCK
  by_cases h0 : k.size = 0
  · have e0 : ((k.size : Int) == 0) = true := by simp [h0]
    have he : eventR v k = ([], 1) := by unfold eventR namedR; rw [if_neg (fun e => (of_decide_eq_true e.2).1 h0)]
    rw [he] at HR
    clear he h0
    go_wp2_with fail
    exact HR.out none 0 _ (Row.nil _ _) hb1
  have e0 : ((k.size : Int) == 0) = false := by simp only [beq_eq_false_iff_ne]; omega
  by_cases h1 : 32 < k.size
  · have e1 : (32 : Int) < (k.size : Int) := by omega
    have e2 : decide ((32 : Int) < (k.size : Int)) = true := decide_eq_true e1
    have he : eventR v k = ([], 1) := by unfold eventR namedR; rw [if_neg (fun e => absurd (of_decide_eq_true e.2).2 (by omega))]
    rw [he] at HR
    clear he h0 h1
    go_wp2_with fail
    exact HR.out none 0 _ (Row.nil _ _) hb1
  have e1 : ¬ (32 : Int) < (k.size : Int) := by omega
  have e2 : decide ((32 : Int) < (k.size : Int)) = false := decide_eq_false e1
  have hn : namedR k = true := decide_eq_true ⟨h0, by omega⟩
  have HN := Lib.hid hn
  clear h0 h1 hn
  go_wp2_with fail
  clear e0 e1 e2
  refine (ref10_Count v A c k w1 h hl).mono ?_
  rintro e w2 ⟨rfl, rfl⟩
  obtain ⟨q, hq⟩ : ∃ q, cntR k v = q := ⟨_, rfl⟩
  rw [hq]
  by_cases hqm : q = 18446744073709551615
  · have hqb : (q == 18446744073709551615) = true := by simpa using hqm
    have he : eventR v k = ([], 5) := by unfold eventR; rw [if_pos ⟨HC.out, HN.out⟩, hq, if_pos hqm]
    rw [he] at HR
    clear he hq
    subst hqm
    go_wp2_with fail
    exact HR.out none 0 _ (Row.nil _ _) hb1
  have hqb : (q == 18446744073709551615) = false := by simpa using hqm
  have vv := vok_of HC.out hw
  have hqw : (Lit.int .u64 q).wf = true := by rw [← hq]; exact (⟨vv.srt, fun z hz => (vv.sm z hz).1, vv.wf⟩ : MapOk v).cnt k
  obtain ⟨hwr, _⟩ := ev_wrap hqw hqm
  have hq0 := wf_low hqw
  have hpe := put_ev HC.out hw HN.out (by rw [hq]; exact hqm)
  have he : eventR v k = listR (evL v k) := by unfold eventR; rw [if_pos ⟨HC.out, HN.out⟩, hq, if_neg hqm]
  rw [hq] at hpe
  have hl64 := (checkE_ok HC.out).len
  rw [he] at HR
  have HPE := Lib.hid hpe
  have HVV := Lib.hid vv
  have HQ0 := Lib.hid hq0
  clear he hpe vv hq hqm hqw hq0
  go_wp2_with fail
  clear hwr
  refine ref10_Put v A c k (q + 1) w1 h (by omega) HVV.out.srt (by have := HQ0.out; omega) (fun x hx => (HVV.out.sm x hx).1) ?_
  rw [HPE.out]
  intro A2 c2 w3 hr3 hb3
  have hbf := hb1.trans (hb3.mono hb1.size)
  generalize evL v k = L at *
  unfold listR at HR
  have hL0 : (0 : Int) ≤ (L.length : Int) := Int.natCast_nonneg _
  by_cases h8 : 64 < L.length
  · have e1 : (64 : Int) < (L.length : Int) := by omega
    have e2 : decide ((64 : Int) < (L.length : Int)) = true := decide_eq_true e1
    rw [if_pos h8] at HR
    go_wp2_with fail
    exact HR.out none 0 _ (Row.nil _ _) hbf
  · have e1 : ¬ (64 : Int) < (L.length : Int) := by omega
    have e2 : decide ((64 : Int) < (L.length : Int)) = false := decide_eq_false e1
    rw [if_neg h8] at HR
    dsimp only at HR
    go_wp2_with fail
    exact HR.out A2 c2 _ hr3 hbf
end
end Go.Proofs.Ytgjiedjfplbipaa
