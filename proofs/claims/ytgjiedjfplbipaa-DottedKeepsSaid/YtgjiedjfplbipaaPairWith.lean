/- pairs.With. -/
import Derived.Test.YtgjiedjfplbipaaPairOrd
import Derived.Test.YtgjiedjfplbipaaPairFind
import Derived.Test.YtgjiedjfplbipaaPairIns
namespace Go.Proofs.Ytgjiedjfplbipaa
open Go.RowKit Go.Lib
section
abbrev kI : It → ByteArray := fun x => x.1
/-- Pairs with others in their places. -/
def insAll (l more : List It) : List It := more.foldl (fun o x => insK kI x o) l
def oneF (more : List It) (t : Nat) : Int := checkP [more.getD t (emp, emp)]
def withR (l more : List It) : List It × Int :=
  if checkP l ≠ 0 then ([], 1) else if firstErr (oneF more) more.length ≠ 0 then ([], 1) else if 8 < (insAll l more).length then ([], 3) else (insAll l more, 0)
theorem insAll_snoc (l more : List It) (j : Nat) (h : j < more.length) : insAll l (more.take (j + 1)) = insK kI (more.getD j (emp, emp)) (insAll l (more.take j)) := by
  rw [take_snoc more j (emp, emp) h]; unfold insAll; rw [List.foldl_append]; rfl
theorem insAll_length (l more : List It) : ∀ j, j ≤ more.length → (insAll l (more.take j)).length ≤ l.length + j := by
  intro j
  induction j with
  | zero => intro _; simp [insAll]
  | succ j ih =>
    intro hj
    rw [insAll_snoc l more j (by omega)]
    have := insK_length (key := kI) (x := more.getD j (emp, emp)) (insAll l (more.take j))
    have := ih (by omega)
    omega
theorem srt_pr {l : List It} (h : PrOk l) : Srt kI l := srt_of (d := (emp, emp)) (fun j h0 hj => by
  have := (h.at_ j hj).2.2.1 h0
  rw [leB_ltB] at this
  simpa using this)
theorem srt_all {l more : List It} (h : Srt kI l) : ∀ j, j ≤ more.length → Srt kI (insAll l (more.take j)) := by
  intro j
  induction j with
  | zero => intro _; simpa [insAll] using h
  | succ j ih => intro hj; rw [insAll_snoc l more j (by omega)]; exact (ih (by omega)).ins
theorem flat_set (l : List It) (x : It) : ∀ i, i < l.length → flat itC (l.set i x) = ((flat itC l).set (i * 2) (.string x.1)).set (i * 2 + 1) (.string x.2) := by
  induction l with
  | nil => intro i h; exact absurd h (by simp)
  | cons y l ih =>
    intro i h
    cases i with
    | zero => rfl
    | succ i =>
      have hh := ih i (by simpa using h)
      rw [List.set_cons_succ, flat_cons, hh, flat_cons]
      have e1 : (i + 1) * 2 = i * 2 + 1 + 1 := by omega
      rw [e1]
      simp only [itC, List.cons_append, List.nil_append, List.set_cons_succ]
/-- An element of a row of the call's own is stored. -/
theorem Own.put {w : World} {B c : Nat} {A : Option Addr} {l : List It} {i : Nat} {k m : ByteArray} (h : Own w B 34 2 itC (.slice A l.length c) l) (hi : i < l.length) :
    ∃ g, A = some ⟨g, 0, none⟩ ∧ B ≤ g ∧ g < w.heap.size ∧ (∃ u, w.cell? ⟨g, i * 2, none⟩ = some u) ∧ (∃ u, w.cell? ⟨g, i * 2 + 1, none⟩ = some u) ∧ w.frozen? ⟨g, i * 2, none⟩ = false ∧ w.frozen? ⟨g, i * 2 + 1, none⟩ = false ∧
      (∃ u, (w.setCell ⟨g, i * 2, none⟩ (.string k)).cell? ⟨g, i * 2 + 1, none⟩ = some u) ∧ (w.setCell ⟨g, i * 2, none⟩ (.string k)).frozen? ⟨g, i * 2 + 1, none⟩ = false ∧
      Row ((w.setCell ⟨g, i * 2, none⟩ (.string k)).setCell ⟨g, i * 2 + 1, none⟩ (.string m)) (some ⟨g, 0, none⟩) (flat itC (l.set i (k, m))) ∧
      Ext (· = g) w ((w.setCell ⟨g, i * 2, none⟩ (.string k)).setCell ⟨g, i * 2 + 1, none⟩ (.string m)) := by
  rcases h.2 with ⟨hn, _⟩ | ⟨g, cap, cur, he, h1, h2, h3, h4, h5, h6⟩
  · injection hn with _ hn _; omega
  · injection he with he _ hc
    subst he hc
    have hB : Blk w g 34 cur := h2
    have hB1 := hB.set (i * 2) (.string k)
    have hB2 := hB1.set (i * 2 + 1) (.string m)
    have hz1 : i * 2 < cur.size := by omega
    have hz2 : i * 2 + 1 < cur.size := by omega
    refine ⟨g, rfl, h1, hB.lt, ⟨cur[i * 2], (hB.cell _).trans (Array.getElem?_eq_getElem hz1)⟩, ⟨cur[i * 2 + 1], (hB.cell _).trans (Array.getElem?_eq_getElem hz2)⟩, hB.frozen _, hB.frozen _, ⟨_, (hB1.cell _).trans (Array.getElem?_eq_getElem (by simpa using hz2))⟩, hB1.frozen _, .inr ⟨g, 0, rfl, hB2.lt, fun j u hj => ?_⟩, (Ext.self w g (i * 2) _).trans (Ext.self _ g (i * 2 + 1) _) (fun _ _ h => h)⟩
    rw [flat_set l (k, m) i hi] at hj
    have hjl : j < (flat itC l).length := by
      have := (List.getElem?_eq_some_iff.1 hj).1
      simpa using this
    have hcur : ∀ j, j < (flat itC l).length → cur[j]? = (flat itC l)[j]? := fun j hjl => by
      have e := flat_length itC_len l
      rw [← h6, List.getElem?_take, if_pos (by omega), Array.getElem?_toList]
    rw [Nat.zero_add, hB2.cell, Array.getElem?_setIfInBounds, Array.getElem?_setIfInBounds]
    rw [List.getElem?_set, List.getElem?_set] at hj
    by_cases c1 : i * 2 + 1 = j
    · rw [if_pos c1] at hj ⊢
      rw [if_pos (by simp; omega)]
      rw [if_pos (by simp; omega)] at hj
      exact hj
    · rw [if_neg c1] at hj ⊢
      by_cases c2 : i * 2 = j
      · rw [if_pos c2] at hj ⊢
        rw [if_pos (by omega)]
        rw [if_pos (by omega)] at hj
        exact hj
      · rw [if_neg c2] at hj ⊢
        rw [hcur j hjl]; exact hj
def WithRel (W : World) (l more : List It) (out i : Value) (w : World) : Prop :=
  ∃ (j : Nat) (A : Option Addr) (c : Nat), i = .int .i64 (j : Int) ∧ j ≤ more.length ∧ out = .slice A (insAll l (more.take j)).length c ∧ Row w A (flat itC (insAll l (more.take j))) ∧ (A = none → c = 0) ∧ firstErr (oneF more) j = 0 ∧ Below W.heap.size W w

set_option maxHeartbeats 4000000 in
set_option maxRecDepth 100000 in
theorem pairs_With (l more : List It) (A1 A2 : Option Addr) (c1 c2 : Nat) (w : World) (h1 : Row w A1 (flat itC l)) (h2 : Row w A2 (flat itC more)) (hc1 : l.length ≤ c1) (hn1 : A1 = none → c1 = 0) (hm : more.length ≤ 1000) {R : Ending → World → Prop}
    (hR : ∀ A c w', Row w' A (flat itC (withR l more).1) → (withR l more).1.length ≤ 8 → Below w.heap.size w w' → R (.returned (.tuple #[.slice A (withR l more).1.length c, .int .i64 (withR l more).2])) w') :
    Calls Try.prog 16 #[.slice A1 l.length c1, .slice A2 more.length c2] w R := by
  have HR := Lib.hid hR
  clear hR
  have hl0 : (0 : Int) ≤ (l.length : Int) := Int.natCast_nonneg _
  have hm0 : (0 : Int) ≤ (more.length : Int) := Int.natCast_nonneg _
  obtain ⟨ck, hck⟩ : ∃ ck, checkP l = ck := ⟨_, rfl⟩
  have hok : ck = 0 → PrOk l := fun e => checkP_ok (hck.trans e)
  go_enter Try.func16, Try.ntmps16
  go_wp2_with fail
  refine pairs_Check l A1 c1 w h1 ?_
  rw [show checkL 8 (prF l) l.length = ck from hck]
  intro w1 hb1
  by_cases hz : ck = 0
  rotate_left
  · have hzb : (ck != 0) = true := by simpa using hz
    have hw : withR l more = ([], 1) := by unfold withR; rw [hck, if_pos hz]
    rw [hw] at HR
    clear hok hw hck
    go_wp2_with fail
    exact HR.out none 0 _ (Row.nil _ _) (by decide) hb1
  subst hz
  have hpk := hok rfl
  have hl8 := hpk.len
  have HSR := Lib.hid (srt_pr hpk)
  have HCK := Lib.hid hck
  clear hok hck hpk
  replace h1 := h1.below hb1 (Nat.le_refl _)
  have hcI : (l.length : Int) ≤ (c1 : Int) := by omega
  go_upto_region 3 with fail
  go_cut [6] (fun s6 wx => ∃ A c, s6 = .slice A l.length c ∧ (A = none → c = 0) ∧ Row wx A (flat itC l) ∧ Below w.heap.size w wx)
  case first =>
    cases A1 with
    | none =>
      obtain rfl := hn1 rfl
      have hln : l.length = 0 := by omega
      obtain rfl : l = [] := List.eq_nil_of_length_eq_zero hln
      clear hln hc1 hcI hl0
      go_wp2_with fail
      go_meet
      exact ⟨none, 0, rfl, fun _ => rfl, h1, hb1⟩
    | some ad =>
      go_wp2_with fail
      go_meet
      exact ⟨some ad, l.length, rfl, fun e => (by cases e), h1, hb1⟩
  case rest =>
  clear h1 hb1 hc1 hn1 hcI
  obtain ⟨A, c, rfl, hAn, h1, hb1⟩ := hcut
  go_wp2_with fail
  go_loopw [6, 22] (WithRel w l more) (fun _ i _ => more.length - (RowKit.intOf i).toNat)
  case atStart => exact ⟨0, A, c, rfl, Nat.zero_le _, rfl, h1, hAn, rfl, hb1⟩
  case round =>
    clear h1 hAn hb1
    clear A c
    obtain ⟨j, A, c, rfl, hj, rfl, hrow, hAn, hfe, hbw⟩ := hrel
    have hj0 : (0 : Int) ≤ (j : Int) := Int.natCast_nonneg _
    have hLl := insAll_length l more j hj
    have hLs := srt_all HSR.out j hj
    by_cases hlt : j < more.length
    · have hj1 : (j : Int) < (more.length : Int) := by omega
      have hjd : decide ((j : Int) < (more.length : Int)) = true := decide_eq_true hj1
      have hrw := h2.below hbw (Nat.le_refl _)
      obtain ⟨b, o, hA2, hb, d0, d1⟩ := hrw.it j hlt
      obtain ⟨⟨k, m⟩, hkm⟩ : ∃ x, more.getD j (emp, emp) = x := ⟨_, rfl⟩
      have hone : oneF more j = checkL 8 (prF [(k, m)]) [(k, m)].length := by unfold oneF; rw [hkm]; rfl
      have hsn := insAll_snoc l more j hlt
      rw [hkm] at d0 d1 hsn
      dsimp only at d0 d1
      have HSN := Lib.hid hsn
      have HONE := Lib.hid hone
      have HFE := Lib.hid hfe
      have HLS := Lib.hid hLs
      clear hkm hone hsn hfe hrw hLs
      subst hA2
      go_upto_region 7 with fail
      have hba := Blk.new wr 34 #[.string k, .string m]
      have hbx := (Below.refl wr.heap.size wr).alloc (Nat.le_refl _) (.cells #[.string k, .string m] 34)
      replace hrow := hrow.below hbx (Nat.le_refl _)
      replace hbw := hbw.trans (hbx.mono hbw.size)
      clear hbx d0 d1
      generalize hwa : wr.alloc (.cells #[.string k, .string m] 34) = wa at *
      generalize hbx : wr.heap.size = bx at *
      clear hwa hbx
      have q0 := hba.cell 0
      have q1 := hba.cell 1
      dsimp at q0 q1
      have hbv := (Below.refl wa.heap.size wa).alloc (Nat.le_refl _) (.cells #[.string k, .string m] 34)
      go_wp2_with fail
      refine pairs_Check [(k, m)] _ 1 (wa.alloc (.cells #[.string k, .string m] 34)) (Row.new _ _ _) ?_
      rw [← HONE.out]
      intro w2 hb2
      replace hbv := hbv.trans (hb2.mono hbv.size)
      replace hba := hba.below hbv hba.lt
      replace hrow := hrow.below hbv (Nat.le_refl _)
      replace hbw := hbw.trans (hbv.mono hbw.size)
      clear hbv hb2 q0 q1
      by_cases hz : oneF more j = 0
      rotate_left
      · have hzb : (oneF more j != 0) = true := by simpa using hz
        have hfs : firstErr (oneF more) more.length ≠ 0 := by rw [firstErr_stop HFE.out hz more.length hlt]; exact hz
        have hw : withR l more = ([], 1) := by unfold withR; rw [HCK.out, if_neg (by decide), if_pos hfs]
        rw [hw] at HR
        clear hw hz hfs
        go_wp2_with fail
        exact HR.out none 0 _ (Row.nil _ _) (by decide) hbw
      have hfn : firstErr (oneF more) (j + 1) = 0 := firstErr_step HFE.out hz
      have hzb : (oneF more j != 0) = false := by simp [hz]
      have HFN := Lib.hid hfn
      clear hfn hz HFE HONE
      obtain ⟨L, hL⟩ : ∃ L, insAll l (more.take j) = L := ⟨_, rfl⟩
      have hsn := HSN.out
      rw [hL] at hLl hrow hsn HLS
      rw [hL]
      have HSN' := Lib.hid hsn
      clear hsn HSN hL
      obtain ⟨i, hi⟩ : ∃ i, posK kI k L = i := ⟨_, rfl⟩
      have hil : i ≤ L.length := by rw [← hi]; exact posK_le L
      have hins := insK_pos (key := kI) (x := (k, m)) (d := (emp, emp)) L
      rw [show kI (k, m) = k from rfl, hi] at hins
      have hp1 : ∀ t, t < i → Op.bytesLess (L.getD t (emp, emp)).1.toList k.toList = true := fun t ht => posK_lt (key := kI) (d := (emp, emp)) L t (by rw [hi]; exact ht)
      have hp2 : ∀ t, i ≤ t → t < L.length → Op.bytesLess (L.getD t (emp, emp)).1.toList k.toList = false := fun t ht htl => posK_ge (key := kI) (d := (emp, emp)) L HLS.out t (by rw [hi]; exact ht) htl
      have HP1 := Lib.hid hp1
      have HP2 := Lib.hid hp2
      have q0 := hba.cell 0
      dsimp at q0
      obtain ⟨z, hz⟩ : ∃ z, decide (i < L.length ∧ (L.getD i (emp, emp)).1 = k) = z := ⟨_, rfl⟩
      have HZ := Lib.hid hz
      have HINS := Lib.hid hins
      clear hp1 hp2 hi hz hins HLS
      go_wp2_with fail
      refine pairs_find L A c k i w2 hrow (by omega) hil HP1.out HP2.out ?_
      rw [HZ.out]
      intro w3 hx3
      replace hba := hba.ext hx3 id
      replace hrow := hrow.ext hx3 (fun _ _ _ => id)
      replace hbw := below_ext hbw (Nat.le_refl _) hx3 (fun b e => e.elim)
      clear q0 hx3
      go_wp2_with fail
      refine slices_Clone_Pair L A c w3 hrow (by omega) hAn ?_
      intro A4 c4 w4 hown4 hb4
      have hWB : w.heap.size ≤ w3.heap.size := hbw.size
      replace hba := hba.below hb4 hba.lt
      replace hbw := hbw.trans (hb4.mono hbw.size)
      have hB4 := hb4.size
      clear hrow hb4 hAn
      have q0 := hba.cell 0
      have q1 := hba.cell 1
      dsimp at q0 q1
      cases z
      · have hnz : ¬ (i < L.length ∧ (L.getD i (emp, emp)).1 = k) := of_decide_eq_false HZ.out
        have hnx : insAll l (more.take (j + 1)) = L.take i ++ (k, m) :: L.drop i := by rw [HSN'.out, HINS.out, if_neg hnz]
        have hln : (L.take i ++ (k, m) :: L.drop i).length = L.length + 1 := by simp; omega
        have HNX := Lib.hid hnx
        have HLN := Lib.hid hln
        clear hnz hnx HSN' HINS HZ hln
        have hvb := Blk.new w4 34 #[.string k, .string m]
        have hne : (Value.slice A4 L.length c4).ownBlock ≠ some w4.heap.size := fun e => absurd (hown4.lt _ e).2 (Nat.lt_irrefl _)
        have hlo := hown4.lt
        go_wp2_with fail
        refine slices_Insert_Pair L i hil k m A4 c4 w4.heap.size 1 w3.heap.size (w4.alloc (.cells #[.string k, .string m] 34)) (hown4.alloc _) (Nat.le_trans hB4 (by simp)) hvb hne (by omega) ?_
        intro A5 c5 w5 hown5 hx5
        have hb5 := below_ext (hbw.alloc hbw.size (.cells #[.string k, .string m] 34)) (Nat.le_refl _) hx5 (fun b e => Nat.le_trans hWB (hlo b e).1)
        have hr5 := (hown5.slice)
        obtain ⟨A6, c6, he6, hrow6⟩ := hr5
        rw [HLN.out] at he6
        injection he6 with e1 _ e2
        subst e1 e2
        have hA5 : A5 = none → c5 = 0 := fun e => by
          subst e
          rcases hown5.2 with ⟨h, _⟩ | ⟨g', _, _, h, _⟩
          · injection h with _ _ h
          · injection h with h _ _; cases h
        go_wp2_with fail
        go_roundw
        case rel => exact ⟨j + 1, A5, c5, by go_num, by omega, by rw [HNX.out, HLN.out], by rw [HNX.out]; exact hrow6, hA5, HFN.out, hb5⟩
        case measure => simp [RowKit.intOf]; omega
      · obtain ⟨hz1, hz2⟩ := of_decide_eq_true HZ.out
        have hnx : insAll l (more.take (j + 1)) = L.set i (k, m) := by rw [HSN'.out, HINS.out, if_pos ⟨hz1, hz2⟩]
        have hln : (L.set i (k, m)).length = L.length := by simp
        have HNX := Lib.hid hnx
        have HLN := Lib.hid hln
        clear hnx HSN' HINS HZ hln hz2
        have hiI : (i : Int) < (L.length : Int) := by omega
        have hi0 : (0 : Int) ≤ (i : Int) := Int.natCast_nonneg _
        obtain ⟨g, rfl, hg1, hg2, ⟨u1, e1⟩, ⟨u2, e2⟩, f1, f2, ⟨u3, e3⟩, f3, hrow5, hx5⟩ := hown4.put (k := k) (m := m) hz1
        have hb5 := below_ext hbw (Nat.le_refl _) hx5 (fun b e => by rw [e]; exact Nat.le_trans hWB hg1)
        go_wp2_with fail
        go_roundw
        case rel => exact ⟨j + 1, some ⟨g, 0, none⟩, c4, by go_num, by omega, by rw [HNX.out, HLN.out], by rw [HNX.out]; exact hrow5, (fun e => by cases e), HFN.out, hb5⟩
        case measure => simp [RowKit.intOf]; omega
    · have hje : j = more.length := by omega
      have hj1 : ¬ (j : Int) < (more.length : Int) := by omega
      have hjd : decide ((j : Int) < (more.length : Int)) = false := decide_eq_false hj1
      rw [hje] at hfe
      have htk : more.take j = more := by rw [hje, List.take_length]
      rw [htk] at hrow hLl ⊢
      have hwz : withR l more = if 8 < (insAll l more).length then ([], 3) else (insAll l more, 0) := by
        unfold withR
        rw [HCK.out, if_neg (by decide), hfe, if_neg (by decide)]
      generalize insAll l more = L at *
      rw [hwz] at HR
      clear hwz htk hfe hLs hje
      have hL0 : (0 : Int) ≤ (L.length : Int) := Int.natCast_nonneg _
      by_cases h8 : 8 < L.length
      · have e1 : (8 : Int) < (L.length : Int) := by omega
        have e2 : decide ((8 : Int) < (L.length : Int)) = true := decide_eq_true e1
        rw [if_pos h8] at HR
        go_wp2_with fail
        exact HR.out none 0 _ (Row.nil _ _) (by decide) hbw
      · have e1 : ¬ (8 : Int) < (L.length : Int) := by omega
        have e2 : decide ((8 : Int) < (L.length : Int)) = false := decide_eq_false e1
        rw [if_neg h8] at HR
        dsimp only at HR
        go_wp2_with fail
        refine slices_Clone_Pair L A c wr hrow (by omega) hAn ?_
        intro A4 c4 w4 hown4 hb4
        go_wp2_with fail
        exact HR.out A4 c4 _ (Row.of_own hown4) (by omega) (hbw.trans (hb4.mono hbw.size))
end
end Go.Proofs.Ytgjiedjfplbipaa
