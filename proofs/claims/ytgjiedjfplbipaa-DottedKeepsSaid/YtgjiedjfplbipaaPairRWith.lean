/- spenceref14.With. -/
import Derived.Test.YtgjiedjfplbipaaPairWith
namespace Go.Proofs.Ytgjiedjfplbipaa
open Go.RowKit Go.Lib
section
theorem rStep_len {key : It → ByteArray} (x : It) : ∀ (l : List It) (q : List It × Bool), (l.foldl (rStep key x) q).1.length ≤ q.1.length + 2 * l.length
  | [], q => by simp
  | y :: l, q => by
    rw [List.foldl_cons]
    have := rStep_len (key := key) x l (rStep key x q y)
    have h2 : (rStep key x q y).1.length ≤ q.1.length + 2 := by
      unfold rStep
      dsimp only
      split <;> split <;> simp
    simp only [List.length_cons]
    omega
theorem rStep_snoc {key : It → ByteArray} (x : It) (l : List It) (j : Nat) (h : j < l.length) (q : List It × Bool) : (l.take (j + 1)).foldl (rStep key x) q = rStep key x ((l.take j).foldl (rStep key x) q) (l.getD j (emp, emp)) := by
  rw [take_snoc l j (emp, emp) h, List.foldl_append]; rfl
def RWithRel (W : World) (l more : List It) (out i : Value) (w : World) : Prop :=
  ∃ (j : Nat) (A : Option Addr) (c : Nat), i = .int .i64 (j : Int) ∧ j ≤ more.length ∧ out = .slice A (insAll l (more.take j)).length c ∧ Row w A (flat itC (insAll l (more.take j))) ∧ firstErr (oneF more) j = 0 ∧ Below W.heap.size W w
def RInRel (W : World) (L : List It) (x : It) (s8 s9 s10 : Value) (w : World) : Prop :=
  ∃ (kk : Nat) (P : List It) (A : Option Addr) (c : Nat) (inb : Bool), s8 = .slice A P.length c ∧ s9 = .bool inb ∧ s10 = .int .i64 (kk : Int) ∧ kk ≤ L.length ∧ (L.take kk).foldl (rStep kI x) ([], false) = (P, inb) ∧ Own w W.heap.size 34 2 itC (.slice A P.length c) P ∧ Below W.heap.size W w
theorem wrap_succ {j : Nat} (h : j < 1000000) : wrap64 ((j : Int) + 1) = (j : Int) + 1 ∧ ((j : Int) + 1).toNat = j + 1 ∧ (0 : Int) ≤ (j : Int) + 1 := by unfold wrap64; omega
theorem one_row {w : World} {b o : Nat} {k m : ByteArray} (hb : b < w.heap.size) (d0 : w.cell? ⟨b, o, none⟩ = some (.string k)) (d1 : w.cell? ⟨b, o + 1, none⟩ = some (.string m)) : Row w (some ⟨b, o, none⟩) (flat itC [(k, m)]) :=
  .inr ⟨b, o, rfl, hb, fun t u hu => by
    match t, hu with
    | 0, hu => exact d0.trans hu
    | 1, hu => exact d1.trans hu⟩
theorem ins_small {l more : List It} (h : PrOk l) : ∀ j, j ≤ more.length → firstErr (oneF more) j = 0 → ∀ y ∈ insAll l (more.take j), y.1.size ≤ 32 := by
  intro j
  induction j with
  | zero =>
    intro _ _ y hy
    have hy : y ∈ l := by simpa [insAll] using hy
    obtain ⟨i, hi, rfl⟩ := List.getElem_of_mem hy
    have := (h.at_ i hi).1
    rwa [getD_at l i _ hi] at this
  | succ j ih =>
    intro hj hf y hy
    have hz := firstErr_zero hf
    rw [insAll_snoc l more j (by omega)] at hy
    rcases insK_mem hy with rfl | hy
    · have h1 := (checkP_ok (hz j (by omega))).at_ 0 (by simp)
      simpa using h1.1
    · exact ih (by omega) (firstErr_of (fun i hi => hz i (by omega))) y hy
set_option maxHeartbeats 4000000 in
set_option maxRecDepth 100000 in
theorem ref14_With (l more : List It) (A1 A2 : Option Addr) (c1 c2 : Nat) (w : World) (h1 : Row w A1 (flat itC l)) (h2 : Row w A2 (flat itC more)) (hc2 : more.length ≤ c2) (hm : more.length ≤ 1000) {R : Ending → World → Prop}
    (hR : ∀ A c w', Row w' A (flat itC (withR l more).1) → (withR l more).1.length ≤ 8 → Below w.heap.size w w' → R (.returned (.tuple #[.slice A (withR l more).1.length c, .int .i64 (withR l more).2])) w') :
    Calls Try.prog 17 #[.slice A1 l.length c1, .slice A2 more.length c2] w R := by
  obtain ⟨i0, hi0, hI0, hI1, hI2⟩ := info_parts info_pr
  have HR := Lib.hid hR
  clear hR
  have hl0 : (0 : Int) ≤ (l.length : Int) := Int.natCast_nonneg _
  have hm0 : (0 : Int) ≤ (more.length : Int) := Int.natCast_nonneg _
  obtain ⟨ck, hck⟩ : ∃ ck, checkP l = ck := ⟨_, rfl⟩
  have hok : ck = 0 → PrOk l := fun e => checkP_ok (hck.trans e)
  go_enter Try.func17, Try.ntmps17
  go_wp2_with fail
  refine ref14_Check l A1 c1 w h1 ?_
  rw [show checkL 8 (prF l) l.length = ck from hck]
  intro w1 hb1
  by_cases hz : ck = 0
  rotate_left
  · have hzb : (ck != 0) = true := by simpa using hz
    have hw : withR l more = ([], 1) := by unfold withR; rw [hck, if_pos hz]
    rw [hw] at HR
    clear hok hw hck
    go_wp2_with fail
    exact HR.out none 0 _ (Row.nil _ _) (by decide) hb1
  subst hz
  have hpk := hok rfl
  have hl8 := hpk.len
  have HSR := Lib.hid (srt_pr hpk)
  have HCK := Lib.hid hck
  have HPK := Lib.hid hpk
  clear hok hck hpk
  replace h1 := h1.below hb1 (Nat.le_refl _)
  go_wp2_with (first
    | (at_builtin; refine wpList_append_list rfl _ _ _ (by rfl) w1.heap.size 34 i0 _ 2 32 Try.underlying22 hi0 hI0 hI1 hI2 rfl (by decide) itC itC_len itC_oneAll (.slice (some ⟨w1.heap.size, 0, none⟩) 0 0) [] l (by rfl) (World.ownsRow_made w1 #[] 0 (Nat.le_refl _) (Nat.zero_le _) rfl) A1 c1 (by rfl) (h1.alloc _) (by simp only [List.length_nil]; unfold maxLen; omega) (by simp only [List.length_nil]; omega) (by simp) ?_
       intro A9 c9 w9 hown9 hx9 hst9))
  rw [List.nil_append] at hown9
  have hb9 : Below w.heap.size w w9 := below_ext (hb1.alloc hb1.size (.cells #[] 34)) (Nat.le_refl _) hx9 (fun b e => by simp [Value.ownBlock] at e; have := hb1.size; omega)
  have hr9 := Row.of_own hown9
  clear hown9 hx9 hst9 h1 hb1
  go_loopw [6, 7] (RWithRel w l more) (fun _ i _ => more.length - (RowKit.intOf i).toNat)
  case atStart => exact ⟨0, A9, c9, rfl, Nat.zero_le _, by first | rfl | simp [insAll], by simpa [insAll] using hr9, rfl, hb9⟩
  case round =>
    clear hr9 hb9
    obtain ⟨j, A, c, rfl, hj, rfl, hrow, hfe, hbw⟩ := hrel
    have hj0 : (0 : Int) ≤ (j : Int) := Int.natCast_nonneg _
    have hLl := insAll_length l more j hj
    have hLs := srt_all HSR.out j hj
    by_cases hlt : j < more.length
    · have hj1 : (j : Int) < (more.length : Int) := by omega
      have hjd : decide ((j : Int) < (more.length : Int)) = true := decide_eq_true hj1
      have hrw := h2.below hbw (Nat.le_refl _)
      obtain ⟨b, o, hA2, hb, d0, d1⟩ := hrw.it j hlt
      obtain ⟨⟨k, m⟩, hkm⟩ : ∃ x, more.getD j (emp, emp) = x := ⟨_, rfl⟩
      have hone : oneF more j = checkL 8 (prF [(k, m)]) [(k, m)].length := by unfold oneF; rw [hkm]; rfl
      have hsn := insAll_snoc l more j hlt
      rw [hkm] at d0 d1 hsn
      dsimp only at d0 d1
      have hrow1 := one_row hb d0 d1
      have hcj : (j : Int) + 1 ≤ (c2 : Int) := by omega
      have hcj2 : ¬ c2 = j := by omega
      obtain ⟨hw1, hcj3, hcj4⟩ := wrap_succ (show j < 1000000 by omega)
      have HSN := Lib.hid hsn
      have HONE := Lib.hid hone
      have HFE := Lib.hid hfe
      have HLS := Lib.hid hLs
      have HKM := Lib.hid hkm
      have HSMALL := Lib.hid (ins_small HPK.out j hj hfe)
      clear hkm hone hsn hfe hLs
      subst hA2
      go_wp2_with fail
      refine ref14_Check [(k, m)] (some ⟨b, o + j * 2, none⟩) (c2 - j) wr hrow1 ?_
      rw [← HONE.out]
      intro w2 hb2
      clear hw1 hcj hcj2 hcj3 hcj4 hrow1
      replace hrow := hrow.below hb2 (Nat.le_refl _)
      replace hbw := hbw.trans (hb2.mono hbw.size)
      clear hb2 hrw d0 d1
      by_cases hz : oneF more j = 0
      rotate_left
      · have hzb : (oneF more j != 0) = true := by simpa using hz
        have hfs : firstErr (oneF more) more.length ≠ 0 := by rw [firstErr_stop HFE.out hz more.length hlt]; exact hz
        have hw : withR l more = ([], 1) := by unfold withR; rw [HCK.out, if_neg (by decide), if_pos hfs]
        rw [hw] at HR
        clear hw hz hfs
        go_wp2_with fail
        exact HR.out none 0 _ (Row.nil _ _) (by decide) hbw
      have hfn : firstErr (oneF more) (j + 1) = 0 := firstErr_step HFE.out hz
      have hzb : (oneF more j != 0) = false := by simp [hz]
      have HFN := Lib.hid hfn
      clear hfn hz HFE HONE
      obtain ⟨L, hL⟩ : ∃ L, insAll l (more.take j) = L := ⟨_, rfl⟩
      have hsn := HSN.out
      rw [hL] at hLl hrow hsn HLS HSMALL
      rw [hL]
      have HSN' := Lib.hid hsn
      clear hsn HSN hL
      have hL0 : (0 : Int) ≤ (L.length : Int) := Int.natCast_nonneg _
      have hl28 : L.length ≤ 1008 := by omega
      have HBW := Lib.hid hbw
      have HWZ := Lib.hid hbw.size
      obtain ⟨kk0, hkk0⟩ : ∃ x : ByteArray, x = k := ⟨k, rfl⟩
      clear kk0 hkk0
      go_wp2_with fail
      go_loopw [8, 9, 10] (RInRel w2 L (k, m)) (fun _ _ i _ => L.length - (RowKit.intOf i).toNat)
      case atStart => exact ⟨0, [], none, 0, false, rfl, rfl, rfl, Nat.zero_le _, rfl, Own.nil _ _ _ _, Below.refl _ _⟩
      case round =>
        obtain ⟨q, P, A4, c4, inb, rfl, rfl, rfl, hq, hfo, hown, hb3⟩ := hrel
        have hq0 : (0 : Int) ≤ (q : Int) := Int.natCast_nonneg _
        have hPl : P.length ≤ 2 * L.length := by
          have z := rStep_len (key := kI) (k, m) (L.take q) ([], false)
          rw [hfo, List.length_take] at z
          simp at z
          omega
        by_cases hqt : q < L.length
        · have hq1 : (q : Int) < (L.length : Int) := by omega
          have hqd : decide ((q : Int) < (L.length : Int)) = true := decide_eq_true hq1
          have hrL := hrow.below hb3 (Nat.le_refl _)
          have hrM := h2.below (HBW.out.trans (hb3.mono HWZ.out)) (Nat.le_refl _)
          obtain ⟨b1, o1, hA1, hb1, e0, e1⟩ := hrL.it q hqt
          obtain ⟨b', o', hA2', hb', d0, d1⟩ := hrM.it j hlt
          cases hA2'
          subst hA1
          rw [HKM.out] at d0 d1
          obtain ⟨⟨k2, m2⟩, hk2⟩ : ∃ x, L.getD q (emp, emp) = x := ⟨_, rfl⟩
          rw [hk2] at e0 e1
          dsimp only at d0 d1 e0 e1
          have hks : k2.size ≤ 32 := by
            have := HSMALL.out (L.getD q (emp, emp)) (by rw [getD_at L q _ hqt]; exact List.getElem_mem _)
            rwa [hk2] at this
          have hst := rStep_snoc (key := kI) (k, m) L q hqt ([], false)
          rw [hfo, hk2] at hst
          unfold rStep at hst
          dsimp only [kI] at hst
          obtain ⟨t, ht⟩ : ∃ t, decide (inb = false ∧ ltB k2 k = false) = t := ⟨_, rfl⟩
          have HT := Lib.hid ht
          have HST := Lib.hid hst
          have HRL := Lib.hid hrL
          have HRM := Lib.hid hrM
          have HK2 := Lib.hid hk2
          clear hst ht hfo hrL hrM hk2
          go_upto_region 14 with fail
          go_cut [51] (fun s51 wx => s51 = .bool t ∧ ∃ n, wx = wr.drewN n)
          case first =>
            cases inb
            · cases hL : Op.bytesLess k2.toList k.toList
              · obtain rfl : t = true := by rw [← HT.out]; unfold ltB; rw [hL]; rfl
                go_wp2_with fail
                go_quiet ((first
                  | (go_at_call 71; exact quiet_d (ref06_Below k2 k _ (by omega)))))
                go_wp2_with fail
                go_meet
                exact ⟨rfl, _, rfl⟩
              · obtain rfl : t = false := by rw [← HT.out]; unfold ltB; rw [hL]; rfl
                go_wp2_with fail
                go_quiet ((first
                  | (go_at_call 71; exact quiet_d (ref06_Below k2 k _ (by omega)))))
                go_wp2_with fail
                go_meet
                exact ⟨rfl, _, rfl⟩
            · obtain rfl : t = false := by rw [← HT.out]; rfl
              go_wp2_with fail
              go_quiet (fail)
              go_wp2_with fail
              go_meet
              exact ⟨rfl, _, rfl⟩
          case rest =>
          obtain ⟨rfl, n, rfl⟩ := hcut
          replace hown : Own (wr.drewN n) _ _ _ _ _ _ := hown
          replace hb3 := below_drewN hb3 n
          have hrL : Row (wr.drewN n) _ _ := HRL.out
          have hrM : Row (wr.drewN n) _ _ := HRM.out
          replace e0 : (wr.drewN n).cell? ⟨b1, o1 + q * 2, none⟩ = some (.string k2) := e0
          replace e1 : (wr.drewN n).cell? ⟨b1, o1 + q * 2 + 1, none⟩ = some (.string m2) := e1
          replace d0 : (wr.drewN n).cell? ⟨b, o + j * 2, none⟩ = some (.string k) := d0
          replace d1 : (wr.drewN n).cell? ⟨b, o + j * 2 + 1, none⟩ = some (.string m) := d1
          clear HRL HRM
          generalize wr.drewN n = wb at *
          go_upto_if 51 with fail
          go_cut [8, 9] (fun s8 s9 wx => ∃ (P1 : List It) (A5 : Option Addr) (c5 : Nat) (in1 : Bool), s8 = .slice A5 P1.length c5 ∧ s9 = .bool in1 ∧ (P1, in1) = (if t = true then (P ++ [(k, m)], true) else (P, inb)) ∧ Own wx w2.heap.size 34 2 itC (.slice A5 P1.length c5) P1 ∧ Below w2.heap.size w2 wx)
          case first =>
            cases t
            · go_wp2_with fail
              go_meet
              exact ⟨P, A4, c4, inb, rfl, rfl, rfl, hown, hb3⟩
            · have hlen : (P ++ [(k, m)]).length = P.length + 1 := by simp
              have HLEN := Lib.hid hlen
              clear hlen
              go_wp2_with (first
                | (at_builtin; refine wpList_append_one rfl _ _ _ (by rfl) w2.heap.size 34 i0 _ 2 32 Try.underlying22 hi0 hI0 hI1 hI2 rfl (by decide) itC (.slice A4 (P).length c4) P (by rfl) ((hown).alloc _) (k, m) ⟨(wb).heap.size, 0, none⟩ 1 (by rfl) rfl ((Blk.new _ _ _).news rfl) (itC_one _) (by unfold maxLen; omega) (by omega) (Nat.le_trans (hb3).size (by simp)) ?_
                   intro g9 c9 w9 hown9 hx9 hst9))
              have hb9 := below_ext ((hb3).alloc (hb3).size (.cells #[.string k, .string m] 34)) (Nat.le_refl _) hx9 (fun b e => ((hown).lt b e).1)
              go_meet
              exact ⟨P ++ [(k, m)], some ⟨g9, 0, none⟩, c9, true, by rw [HLEN.out], rfl, rfl, by rw [HLEN.out]; exact hown9, hb9⟩
          case rest =>
          clear hown hb3 e0 e1 d0 d1 hrL hrM
          obtain ⟨P1, A5, c5, in1, rfl, rfl, hp1, hown, hb3⟩ := hcut
          have hP1 : P1.length ≤ P.length + 1 := by
            have := congrArg Prod.fst hp1
            dsimp only at this
            rw [this]
            split <;> simp
          have hst := HST.out
          rw [show (if inb = false ∧ ltB k2 k = false then (P ++ [(k, m)], true) else (P, inb)) = (P1, in1) by
            rw [hp1]
            by_cases c : inb = false ∧ ltB k2 k = false
            · have ht := HT.out; rw [decide_eq_true c] at ht; subst ht; rw [if_pos c, if_pos rfl]
            · have ht := HT.out; rw [decide_eq_false c] at ht; subst ht; rw [if_neg c, if_neg (by decide)]] at hst
          replace HST := Lib.hid hst
          have hrL := hrow.below hb3 (Nat.le_refl _)
          have hrM := h2.below (HBW.out.trans (hb3.mono HWZ.out)) (Nat.le_refl _)
          obtain ⟨b', o', hA2', hb', d0, d1⟩ := hrM.it j hlt
          cases hA2'
          obtain ⟨b', o', hA1', hb', e0, e1⟩ := hrL.it q hqt
          cases hA1'
          rw [HKM.out] at d0 d1
          rw [HK2.out] at e0 e1
          dsimp only at d0 d1 e0 e1
          clear hp1 hst HT hrL hrM
          have hkb := toList_beq k2 k
          by_cases hkk : k2 = k
          · have hst := HST.out
            rw [if_neg (fun c => c hkk)] at hst
            rw [decide_eq_true hkk] at hkb
            replace HST := Lib.hid hst
            clear hst hkk
            go_wp2_with fail
            go_quiet (fail)
            go_wp2_with fail
            go_roundw
            case rel => exact ⟨q + 1, P1, A5, c5, in1, rfl, rfl, by go_num, by omega, HST.out, hown, below_drewN hb3 _⟩
            case measure => simp [RowKit.intOf]; omega
          · have hst := HST.out
            rw [if_pos hkk] at hst
            rw [decide_eq_false hkk] at hkb
            replace HST := Lib.hid hst
            have hlen : (P1 ++ [(k2, m2)]).length = P1.length + 1 := by simp
            have HLEN := Lib.hid hlen
            clear hst hkk hlen
            go_wp2_with fail
            go_quiet (fail)
            replace hown : Own (wc.drewN nq) _ _ _ _ _ _ := hown
            replace hb3 := below_drewN hb3 nq
            replace e0 : (wc.drewN nq).cell? ⟨b1, o1 + q * 2, none⟩ = some (.string k2) := e0
            replace e1 : (wc.drewN nq).cell? ⟨b1, o1 + q * 2 + 1, none⟩ = some (.string m2) := e1
            clear d0 d1 hkb
            generalize wc.drewN nq = wd at *
            go_wp2_with (first
              | (at_builtin; refine wpList_append_one rfl _ _ _ (by rfl) w2.heap.size 34 i0 _ 2 32 Try.underlying22 hi0 hI0 hI1 hI2 rfl (by decide) itC (.slice A5 (P1).length c5) P1 (by rfl) ((hown).alloc _) (k2, m2) ⟨(wd).heap.size, 0, none⟩ 1 (by rfl) rfl ((Blk.new _ _ _).news rfl) (itC_one _) (by unfold maxLen; omega) (by omega) (Nat.le_trans (hb3).size (by simp)) ?_
                 intro g9 c9 w9 hown9 hx9 hst9))
            have hb9 := below_ext ((hb3).alloc (hb3).size (.cells #[.string k2, .string m2] 34)) (Nat.le_refl _) hx9 (fun b e => ((hown).lt b e).1)
            go_roundw
            case rel => exact ⟨q + 1, P1 ++ [(k2, m2)], some ⟨g9, 0, none⟩, c9, in1, by rw [HLEN.out], rfl, by go_num, by omega, HST.out, by rw [HLEN.out]; exact hown9, hb9⟩
            case measure => simp [RowKit.intOf]; omega
        · have hq1 : ¬ (q : Int) < (L.length : Int) := by omega
          have hqd : decide ((q : Int) < (L.length : Int)) = false := decide_eq_false hq1
          have hqL : q = L.length := by omega
          rw [hqL, List.take_length] at hfo
          have hend := rFold (key := kI) (x := (k, m)) L [] HLS.out
          rw [hfo, List.nil_append] at hend
          unfold rEnd at hend
          dsimp only at hend
          have hnx : insAll l (more.take (j + 1)) = if inb = true then P else P ++ [(k, m)] := by rw [HSN'.out, hend]
          have HNX := Lib.hid hnx
          have hbw4 := HBW.out.trans (hb3.mono HWZ.out)
          clear hend hnx hqL hfo
          cases inb
          · have hnx := HNX.out
            rw [if_neg (by decide)] at hnx
            replace HNX := Lib.hid hnx
            have hrM := h2.below hbw4 (Nat.le_refl _)
            obtain ⟨b', o', hA2', hb', d0, d1⟩ := hrM.it j hlt
            cases hA2'
            rw [HKM.out] at d0 d1
            dsimp only at d0 d1
            have hlen : (P ++ [(k, m)]).length = P.length + 1 := by simp
            have HLEN := Lib.hid hlen
            clear hnx hrM hlen
            go_wp2_with (first
              | (at_builtin; refine wpList_append_one rfl _ _ _ (by rfl) w2.heap.size 34 i0 _ 2 32 Try.underlying22 hi0 hI0 hI1 hI2 rfl (by decide) itC (.slice A4 (P).length c4) P (by rfl) ((hown).alloc _) (k, m) ⟨(wr).heap.size, 0, none⟩ 1 (by rfl) rfl ((Blk.new _ _ _).news rfl) (itC_one _) (by unfold maxLen; omega) (by omega) (Nat.le_trans (hb3).size (by simp)) ?_
                 intro g9 c9 w9 hown9 hx9 hst9))
            have hb9 := below_ext ((hb3).alloc (hb3).size (.cells #[.string k, .string m] 34)) (Nat.le_refl _) hx9 (fun b e => ((hown).lt b e).1)
            have hbw5 := HBW.out.trans (hb9.mono HWZ.out)
            have hown9' := hown9
            rw [← HLEN.out] at hown9'
            have hr9 := Row.of_own hown9'
            clear hown9'
            go_roundw
            case rel => exact ⟨j + 1, some ⟨g9, 0, none⟩, c9, by go_num, by omega, by rw [HNX.out, HLEN.out], by rw [HNX.out]; exact hr9, HFN.out, hbw5⟩
            case measure => simp [RowKit.intOf]; omega
          · have hnx := HNX.out
            rw [if_pos rfl] at hnx
            replace HNX := Lib.hid hnx
            clear hnx
            have hr9 := Row.of_own hown
            go_wp2_with fail
            go_roundw
            case rel => exact ⟨j + 1, A4, c4, by go_num, by omega, by rw [HNX.out], by rw [HNX.out]; exact hr9, HFN.out, hbw4⟩
            case measure => simp [RowKit.intOf]; omega
    · have hje : j = more.length := by omega
      have hj1 : ¬ (j : Int) < (more.length : Int) := by omega
      have hjd : decide ((j : Int) < (more.length : Int)) = false := decide_eq_false hj1
      rw [hje] at hfe
      have htk : more.take j = more := by rw [hje, List.take_length]
      rw [htk] at hrow hLl ⊢
      have hwz : withR l more = if 8 < (insAll l more).length then ([], 3) else (insAll l more, 0) := by
        unfold withR
        rw [HCK.out, if_neg (by decide), hfe, if_neg (by decide)]
      generalize insAll l more = L at *
      rw [hwz] at HR
      clear hwz htk hfe hLs hje
      have hL0 : (0 : Int) ≤ (L.length : Int) := Int.natCast_nonneg _
      by_cases h8 : 8 < L.length
      · have e1 : (8 : Int) < (L.length : Int) := by omega
        have e2 : decide ((8 : Int) < (L.length : Int)) = true := decide_eq_true e1
        rw [if_pos h8] at HR
        go_wp2_with fail
        exact HR.out none 0 _ (Row.nil _ _) (by decide) hbw
      · have e1 : ¬ (8 : Int) < (L.length : Int) := by omega
        have e2 : decide ((8 : Int) < (L.length : Int)) = false := decide_eq_false e1
        rw [if_neg h8] at HR
        dsimp only at HR
        go_wp2_with fail
        exact HR.out A c _ hrow (by omega) hbw
end
end Go.Proofs.Ytgjiedjfplbipaa
