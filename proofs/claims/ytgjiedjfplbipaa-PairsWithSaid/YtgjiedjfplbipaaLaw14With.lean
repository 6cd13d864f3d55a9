/- PairsWith' walk. -/
import Derived.Deep.DeepCutAuto
import Derived.Test.YtgjiedjfplbipaaPairRWith
import Derived.Test.YtgjiedjfplbipaaPairValue
namespace Go.Proofs.Ytgjiedjfplbipaa
open Go.RowKit Go.Lib
section
theorem valR_none {l : List It} {name : ByteArray} : (∀ y ∈ l, y.1 ≠ name) → valR l name = (⟨#[]⟩, false) := by
  induction l with
  | nil => intro _; rfl
  | cons x l ih => intro h; rw [valR, if_neg (h x (by simp))]; exact ih (fun y hy => h y (List.mem_cons_of_mem _ hy))
/-- What is put in is found, all else as before. -/
theorem valR_ins (x : It) (name : ByteArray) : ∀ (l : List It), Srt kI l → valR (insK kI x l) name = if x.1 = name then (x.2, true) else valR l name
  | [], _ => by simp only [insK, valR]
  | y :: l, h => by
    rw [insK]
    by_cases hl : ltB (kI y) (kI x) = true
    · rw [if_pos hl, valR, valR_ins x name l h.2]
      by_cases hy : y.1 = name
      · have hne : ¬ x.1 = name := fun e => ltB_ne hl (by show y.1 = x.1; rw [hy, e])
        rw [if_pos hy, if_neg hne, valR, if_pos hy]
      · rw [if_neg hy]
        by_cases hx : x.1 = name
        · rw [if_pos hx, if_pos hx]
        · rw [if_neg hx, if_neg hx, valR, if_neg hy]
    · rw [if_neg hl]
      by_cases he : kI y = kI x
      · rw [if_pos he, valR]
        by_cases hx : x.1 = name
        · rw [if_pos hx, if_pos hx]
        · have hy : ¬ y.1 = name := fun e => hx (by rw [← e]; exact he.symm)
          rw [if_neg hx, if_neg hx, valR, if_neg hy]
      · rw [if_neg he, valR]
/-- The last of a list that has a name. -/
def lastR (more : List It) (name : ByteArray) : Nat → Option It
  | 0 => none
  | n + 1 => if (more.getD n (emp, emp)).1 = name then some (more.getD n (emp, emp)) else lastR more name n
theorem val_all {l more : List It} {name : ByteArray} (h : Srt kI l) : ∀ j, j ≤ more.length → valR (insAll l (more.take j)) name = match lastR more name j with | some x => (x.2, true) | none => valR l name := by
  intro j
  induction j with
  | zero => intro _; simp [insAll, lastR]
  | succ j ih =>
    intro hj
    rw [insAll_snoc l more j (by omega), valR_ins _ _ _ (srt_all h j (by omega)), lastR]
    split
    · rfl
    · exact ih (by omega)
/-- Behind place j. -/
theorem last_stop {more : List It} {name : ByteArray} {j : Nat} (hj : (more.getD j (emp, emp)).1 = name) : ∀ n, j < n → (∀ i, j < i → i < n → (more.getD i (emp, emp)).1 ≠ name) → lastR more name n = some (more.getD j (emp, emp))
  | 0, h, _ => absurd h (by omega)
  | n + 1, h, hn => by
    rw [lastR]
    by_cases c : j = n
    · subst c; rw [if_pos hj]
    · rw [if_neg (hn n (by omega) (by omega))]
      exact last_stop hj n (by omega) (fun i h1 h2 => hn i h1 (by omega))
theorem last_none {more : List It} {name : ByteArray} : ∀ n, (∀ i, i < n → (more.getD i (emp, emp)).1 ≠ name) → lastR more name n = none
  | 0, _ => rfl
  | n + 1, h => by rw [lastR, if_neg (h n (by omega)), last_none n (fun i hi => h i (by omega))]
def DnRel (W : World) (l : List It) (name : ByteArray) (s14 s15 s16 : Value) (w : World) : Prop :=
  ∃ j : Nat, j ≤ l.length ∧ s16 = .int .i64 ((j : Int) - 1) ∧ s14 = .string (valR (l.drop j) name).1 ∧ s15 = .bool (valR (l.drop j) name).2 ∧ w = W
def MoRel (W : World) (more : List It) (name : ByteArray) (s17 : Value) (w : World) : Prop :=
  ∃ j : Nat, j ≤ more.length ∧ s17 = .int .i64 ((j : Int) - 1) ∧ (∀ i, j ≤ i → i < more.length → (more.getD i (emp, emp)).1 ≠ name) ∧ w = W
theorem dn_wrap {n : Nat} (h : n ≤ 1000) : wrap64 ((n : Int) - 1) = (n : Int) - 1 := by unfold wrap64; omega
theorem dn_wrap2 {n : Nat} (h : n ≤ 1000) : wrap64 ((n : Int) - 1 - 1) = (n : Int) - 1 - 1 := by unfold wrap64; omega
set_option maxHeartbeats 4000000 in
set_option maxRecDepth 100000 in
theorem law14_with (l more : List It) {n1 n2 : Nat} (hn1 : l.length = n1) (hn2 : more.length = n2) (A1 A2 : Option Addr) (c1 c2 : Nat) (name : ByteArray) (w : World) (h1 : Row w A1 (flat itC l)) (h2 : Row w A2 (flat itC more)) (hc2 : n2 ≤ c2) :
    Calls Try.prog 3 #[.slice A1 n1 c1, .slice A2 n2 c2, .string name] w fun e w' => e = .returned (.bool true) ∧ Below w.heap.size w w' := by
  subst hn1 hn2
  obtain ⟨i0, hi0, hI0, hI1, hI2⟩ := info_parts info_pr
  go_enter Try.func3, Try.ntmps3
  go_wp2_with fail
  refine law14_awake w ?_
  intro w1 hb1
  replace h1 := h1.below hb1 (Nat.le_refl _)
  replace h2 := h2.below hb1 (Nat.le_refl _)
  go_wp2_with fail
  refine ref14_Great l A1 c1 w1 h1 ?_
  rintro b w2 n hbd rfl
  replace h1 : Row (w1.drewN n) _ _ := h1
  replace h2 : Row (w1.drewN n) _ _ := h2
  replace hb1 := below_drewN hb1 n
  generalize w1.drewN n = w2 at *
  cases b
  rotate_left
  · go_wp2_with fail
    first | exact ⟨rfl, hb1⟩ | (go_ret; exact ⟨rfl, hb1⟩)
  obtain ⟨hl20, _⟩ := hbd rfl
  clear hbd
  go_wp2_with fail
  refine ref14_Great more A2 c2 w2 h2 ?_
  rintro b w3 n hbd rfl
  replace h1 : Row (w2.drewN n) _ _ := h1
  replace h2 : Row (w2.drewN n) _ _ := h2
  replace hb1 := below_drewN hb1 n
  generalize w2.drewN n = w3 at *
  cases b
  rotate_left
  · go_wp2_with fail
    first | exact ⟨rfl, hb1⟩ | (go_ret; exact ⟨rfl, hb1⟩)
  obtain ⟨hm20, _⟩ := hbd rfl
  clear hbd
  by_cases hnm : 100 < name.size
  · have e1 : (100 : Int) < (name.size : Int) := by omega
    have e2 : decide ((100 : Int) < (name.size : Int)) = true := decide_eq_true e1
    go_wp2_with fail
    first | exact ⟨rfl, hb1⟩ | (go_ret; exact ⟨rfl, hb1⟩)
  have e1 : ¬ (100 : Int) < (name.size : Int) := by omega
  have e2 : decide ((100 : Int) < (name.size : Int)) = false := decide_eq_false e1
  go_wp2_with (first
    | (at_builtin; refine wpList_append_list rfl _ _ _ (by rfl) w3.heap.size 34 i0 _ 2 32 Try.underlying22 hi0 hI0 hI1 hI2 rfl (by decide) itC itC_len itC_oneAll (.slice (some ⟨w3.heap.size, 0, none⟩) 0 0) [] l (by rfl) (World.ownsRow_made w3 #[] 0 (Nat.le_refl _) (Nat.zero_le _) rfl) A1 c1 (by rfl) (h1.alloc _) (by simp only [List.length_nil]; unfold maxLen; omega) (by simp only [List.length_nil]; omega) (by simp) ?_
       intro A9 c9 w9 hown9 hx9 hst9))
  rw [List.nil_append] at hown9
  clear e1 e2
  have hb39 : Below w3.heap.size w3 w9 := below_ext ((Below.refl w3.heap.size w3).alloc (Nat.le_refl _) (.cells #[] 34)) (Nat.le_refl _) hx9 (fun b e => by simp [Value.ownBlock] at e; omega)
  replace h1 := h1.below hb39 (Nat.le_refl _)
  replace h2 := h2.below hb39 (Nat.le_refl _)
  replace hb1 := hb1.trans (hb39.mono hb1.size)
  have hrO := Row.of_own hown9
  have hcap : l.length ≤ c9 ∧ (A9 = none → c9 = 0) := by
    rcases hown9.2 with ⟨h, h0⟩ | ⟨g', cap, _, h, _, _, h3, _⟩
    · injection h with ha _ hc
      subst ha hc
      exact ⟨by omega, fun _ => rfl⟩
    · injection h with ha _ hc
      subst ha hc
      exact ⟨h3, fun e => by cases e⟩
  clear hown9 hx9 hst9 hb39
  go_wp2_with fail
  refine pairs_With l more A9 A2 c9 c2 w9 hrO h2 hcap.1 hcap.2 (by omega) ?_
  have hrw := fun w h1 h2 R => ref14_With l more A1 A2 c1 c2 w h1 h2 hc2 (by omega) (R := R)
  have hfin : (withR l more).2 = 0 → Srt kI l ∧ (withR l more).1 = insAll l more := by
    unfold withR
    split
    · intro e; exact absurd e (by decide)
    · next hk =>
      split
      · intro e; exact absurd e (by decide)
      · split
        · intro e; exact absurd e (by decide)
        · intro _; exact ⟨srt_pr (checkP_ok (Decidable.not_not.1 hk)), rfl⟩
  generalize withR l more = wr0 at *
  obtain ⟨G, f⟩ := wr0
  dsimp only at hrw hfin ⊢
  intro A3 c3 w10 hrG hG8 hb10
  replace h1 := h1.below hb10 (Nat.le_refl _)
  replace h2 := h2.below hb10 (Nat.le_refl _)
  replace hrO := hrO.below hb10 (Nat.le_refl _)
  replace hb1 := hb1.trans (hb10.mono hb1.size)
  clear hb10 hcap
  have HFIN := Lib.hid hfin
  clear hfin
  go_wp2_with fail
  refine hrw w10 h1 h2 _ ?_
  intro A4 c4 w11 hrH _ hb11
  replace h1 := h1.below hb11 (Nat.le_refl _)
  replace h2 := h2.below hb11 (Nat.le_refl _)
  replace hrO := hrO.below hb11 (Nat.le_refl _)
  replace hrG := hrG.below hb11 (Nat.le_refl _)
  replace hb1 := hb1.trans (hb11.mono hb1.size)
  clear hb11 hrw
  go_wp2_with fail
  refine ref14_Same G G A3 A4 c3 c4 w11 hrG hrH (by omega) ?_
  rintro w12 n rfl
  rw [decide_eq_true rfl]
  replace h1 : Row (w11.drewN n) _ _ := h1
  replace h2 : Row (w11.drewN n) _ _ := h2
  replace hrO : Row (w11.drewN n) _ _ := hrO
  replace hrG : Row (w11.drewN n) _ _ := hrG
  replace hb1 := below_drewN hb1 n
  clear hrH
  generalize w11.drewN n = w12 at *
  go_wp2_with fail
  refine ref14_Same l l A9 A1 c9 c1 w12 hrO h1 (by omega) ?_
  rintro w13 n rfl
  rw [decide_eq_true rfl]
  replace h1 : Row (w12.drewN n) _ _ := h1
  replace h2 : Row (w12.drewN n) _ _ := h2
  replace hrG : Row (w12.drewN n) _ _ := hrG
  replace hb1 := below_drewN hb1 n
  clear hrO
  generalize w12.drewN n = w13 at *
  go_wp2_with fail
  refine pairs_Same l more A1 A2 c1 c2 w13 h1 h2 (by omega) ?_
  rintro w14 n rfl
  replace h1 : Row (w13.drewN n) _ _ := h1
  replace h2 : Row (w13.drewN n) _ _ := h2
  replace hrG : Row (w13.drewN n) _ _ := hrG
  replace hb1 := below_drewN hb1 n
  generalize w13.drewN n = w14 at *
  have hsame := fun w h1 h2 R => ref14_Same l more A1 A2 c1 c2 w h1 h2 (by omega) (R := R)
  generalize decide (l = more) = z at *
  go_wp2_with fail
  refine hsame w14 h1 h2 _ ?_
  rintro w15 n rfl
  clear hsame
  replace h1 : Row (w14.drewN n) _ _ := h1
  replace h2 : Row (w14.drewN n) _ _ := h2
  replace hrG : Row (w14.drewN n) _ _ := hrG
  replace hb1 := below_drewN hb1 n
  generalize w14.drewN n = w15 at *
  go_wp2_with fail
  refine pairs_Value l A1 c1 name w15 h1 (by omega) ?_
  intro w16 hb16
  replace h1 := h1.below hb16 (Nat.le_refl _)
  replace h2 := h2.below hb16 (Nat.le_refl _)
  replace hrG := hrG.below hb16 (Nat.le_refl _)
  replace hb1 := hb1.trans (hb16.mono hb1.size)
  clear hb16
  have hw1 := dn_wrap (show l.length ≤ 1000 by omega)
  obtain ⟨⟨v, vt⟩, hV⟩ : ∃ V, valR l name = V := ⟨_, rfl⟩
  rw [hV]
  have HV := Lib.hid hV
  clear hV
  dsimp only
  go_wp2_with fail
  clear hw1
  go_loopw [14, 15, 16] (DnRel w16 l name) (fun _ _ i _ => ((RowKit.intOf i) + 1).toNat)
  case atStart => exact ⟨l.length, Nat.le_refl _, rfl, by rw [List.drop_of_length_le (Nat.le_refl _)]; rfl, by rw [List.drop_of_length_le (Nat.le_refl _)]; rfl, rfl⟩
  case round =>
    obtain ⟨j, hj, rfl, rfl, rfl, rfl⟩ := hrel
    cases j with
    | succ k =>
      have hk1 : ((k + 1 : Nat) : Int) - 1 = (k : Int) := by omega
      have hk0 : (0 : Int) ≤ (k : Int) := Int.natCast_nonneg _
      have hkd : decide ((0 : Int) ≤ (k : Int)) = true := decide_eq_true hk0
      have hkl : (k : Int) < (l.length : Int) := by omega
      rw [hk1]
      obtain ⟨b, o, hA, hb, d0, d1⟩ := h1.it k (by omega)
      obtain ⟨⟨key, m⟩, hkm⟩ : ∃ x, l.getD k (emp, emp) = x := ⟨_, rfl⟩
      have hst := valR_step (name := name) (show k < l.length by omega)
      rw [hkm] at d0 d1 hst
      dsimp only at d0 d1 hst
      have hkb := toList_beq key name
      have hww := dn_wrap (show k ≤ 1000 by omega)
      obtain ⟨⟨u, ut⟩, hU⟩ : ∃ V, valR (l.drop (k + 1)) name = V := ⟨_, rfl⟩
      rw [hU] at hst ⊢
      dsimp only
      have HST := Lib.hid hst
      have HJ := Lib.hid hj
      subst hA
      clear hkm hst hU hk1 hj
      by_cases hk : key = name
      · have hst := HST.out
        rw [if_pos hk] at hst
        rw [decide_eq_true hk] at hkb
        replace HST := Lib.hid hst
        clear hk hst
        go_wp2_with fail
        clear hww
        go_roundw
        case rel => exact ⟨k, by have := HJ.out; omega, by first | rfl | go_num, by rw [HST.out], by rw [HST.out], rfl⟩
        case measure => simp [RowKit.intOf] <;> omega
      · have hst := HST.out
        rw [if_neg hk] at hst
        rw [decide_eq_false hk] at hkb
        replace HST := Lib.hid hst
        clear hk hst
        go_wp2_with fail
        clear hww
        go_roundw
        case rel => exact ⟨k, by have := HJ.out; omega, by first | rfl | go_num, by rw [HST.out], by rw [HST.out], rfl⟩
        case measure => simp [RowKit.intOf] <;> omega
    | zero =>
      rw [List.drop_zero, HV.out, show ((0 : Nat) : Int) - 1 = -1 from rfl]
      dsimp only
      by_cases hf : f = 0
      rotate_left
      · have hfb : (f != 0) = true := by simpa using hf
        go_wp2_with fail
        first | exact ⟨rfl, hb1⟩ | (go_ret; exact ⟨rfl, hb1⟩)
      subst hf
      obtain ⟨hsrt, hG⟩ := HFIN.out rfl
      have hval := fun j => val_all (more := more) (name := name) hsrt j
      have HVAL := Lib.hid hval
      have HG := Lib.hid hG
      clear hsrt hG HFIN hval
      have hw2 := dn_wrap (show more.length ≤ 1000 by omega)
      go_wp2_with fail
      clear hw2
      go_loopw [17] (MoRel wr more name) (fun i _ => ((RowKit.intOf i) + 1).toNat)
      case atStart => exact ⟨more.length, Nat.le_refl _, rfl, fun i h1 h2 => absurd h2 (by omega), rfl⟩
      case round =>
        obtain ⟨j, hj, rfl, hno, rfl⟩ := hrel
        have HNO := Lib.hid hno
        clear hno
        cases j with
        | succ k =>
          have hk1 : ((k + 1 : Nat) : Int) - 1 = (k : Int) := by omega
          have hk0 : (0 : Int) ≤ (k : Int) := Int.natCast_nonneg _
          have hkd : decide ((0 : Int) ≤ (k : Int)) = true := decide_eq_true hk0
          have hkl : (k : Int) < (more.length : Int) := by omega
          rw [hk1]
          obtain ⟨b, o, hA, hb, d0, d1⟩ := h2.it k (by omega)
          obtain ⟨⟨key, m⟩, hkm⟩ : ∃ x, more.getD k (emp, emp) = x := ⟨_, rfl⟩
          rw [hkm] at d0 d1
          dsimp only at d0 d1
          have hkb := toList_beq key name
          have hww := dn_wrap (show k ≤ 1000 by omega)
          have HJ := Lib.hid hj
          have HKM := Lib.hid hkm
          have HD1 := Lib.hid d1
          have HBB := Lib.hid hb
          subst hA
          clear hkm hk1 hj
          by_cases hk : key = name
          · have hls : lastR more name more.length = some (key, m) := by
              have := last_stop (more := more) (name := name) (j := k) (by rw [HKM.out]; exact hk) more.length (by have := HJ.out; omega) (fun i h1 h2 => HNO.out i (by omega) h2)
              rwa [HKM.out] at this
            have hvg := HVAL.out more.length (Nat.le_refl _)
            rw [List.take_length, hls, ← HG.out] at hvg
            dsimp only at hvg
            rw [decide_eq_true hk] at hkb
            have HVG := Lib.hid hvg
            clear hk hls hvg hww
            go_wp2_with fail
            refine pairs_Value G A3 c3 name _ hrG (by omega) ?_
            rw [HVG.out]
            intro w17 hb17
            replace hb1 := hb1.trans (hb17.mono hb1.size)
            replace d1 := (hb17.cell (p := ⟨b, o + k * 2 + 1, none⟩) HBB.out).trans HD1.out
            clear d0
            dsimp only
            go_wp2_with fail
            first | exact ⟨rfl, hb1⟩ | (go_ret; exact ⟨rfl, hb1⟩)
          · have hno : ∀ i, k ≤ i → i < more.length → (more.getD i (emp, emp)).1 ≠ name := fun i h1 h2 => by
              by_cases c : i = k
              · rw [c, HKM.out]; exact hk
              · exact HNO.out i (by omega) h2
            rw [decide_eq_false hk] at hkb
            replace HNO := Lib.hid hno
            clear hk hno
            go_wp2_with fail
            clear hww
            go_roundw
            case rel => exact ⟨k, by have := HJ.out; omega, by first | rfl | go_num, HNO.out, rfl⟩
            case measure => simp [RowKit.intOf] <;> omega
        | zero =>
          rw [show ((0 : Nat) : Int) - 1 = -1 from rfl]
          have hls : lastR more name more.length = none := last_none _ (fun i hi => HNO.out i (Nat.zero_le _) hi)
          have hvg := HVAL.out more.length (Nat.le_refl _)
          rw [List.take_length, hls, ← HG.out, HV.out] at hvg
          dsimp only at hvg
          have HVG := Lib.hid hvg
          clear hls hvg
          go_wp2_with fail
          refine pairs_Value G A3 c3 name _ hrG (by omega) ?_
          rw [HVG.out]
          intro w17 hb17
          replace hb1 := hb1.trans (hb17.mono hb1.size)
          dsimp only
          go_wp2_with fail
          first | exact ⟨rfl, hb1⟩ | (go_ret; exact ⟨rfl, hb1⟩)
end
end Go.Proofs.Ytgjiedjfplbipaa
