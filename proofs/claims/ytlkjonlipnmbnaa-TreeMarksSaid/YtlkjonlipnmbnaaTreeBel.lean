/- tree.below. -/
import Derived.Test.YtlkjonlipnmbnaaTreeSlice
import Derived.Test.YtlkjonlipnmbnaaPairFind
namespace Go.Proofs.Ytlkjonlipnmbnaa
open Go.RowKit Go.Lib
section
set_option maxRecDepth 100000 in
theorem tree_cmp (x : It) (name : ByteArray) (w : World) {R : Ending → World → Prop}
    (hR : ∀ w', Ext (fun _ => False) w w' → R (.returned (.int .i64 (cmpR x.1 name))) w') :
    Calls Try.prog 39 #[.agg #[.string x.1, .string x.2], .string name] w R := by
  have HR := Lib.hid hR
  clear hR
  go_enter Try.func39, Try.ntmps39
  go_wp2_with fail
  refine (strings_Compare x.1 name _).mono ?_
  rintro e w' ⟨rfl, rfl⟩
  go_wp2_with fail
  exact HR.out _ ((Ext.refl _ _).alloc _)
set_option maxHeartbeats 2000000 in
set_option maxRecDepth 100000 in
theorem bsearch_It (l : List It) (A : Option Addr) (c : Nat) (name : ByteArray) (i : Nat) (w : World) (h : Row w A (flat itC l)) (hl : l.length ≤ 140737488351232) (hi : i ≤ l.length)
    (h1 : ∀ t, t < i → Op.bytesLess (l.getD t (emp, emp)).1.toList name.toList = true) (h2 : ∀ t, i ≤ t → t < l.length → Op.bytesLess (l.getD t (emp, emp)).1.toList name.toList = false) {R : Ending → World → Prop}
    (hR : ∀ w', Ext (fun _ => False) w w' → R (.returned (.tuple #[.int .i64 (i : Int), .bool (decide (i < l.length ∧ (l.getD i (emp, emp)).1 = name))])) w') :
    Calls Try.prog 38 #[.slice A l.length c, .string name, .func (.func 39) #[] #[]] w R := by
  have HR := Lib.hid hR
  have H1 := Lib.hid h1
  have H2 := Lib.hid h2
  clear hR h1 h2
  have hl0 : (0 : Int) ≤ (l.length : Int) := Int.natCast_nonneg _
  go_enter Try.func38, Try.ntmps38
  go_wp2_with fail
  go_loopw [9, 10] (fun lo hi w' => ∃ a b : Nat, lo = .int .i64 (a : Int) ∧ hi = .int .i64 (b : Int) ∧ a ≤ i ∧ i ≤ b ∧ b ≤ l.length ∧ Ext (fun _ => False) w w') (fun lo hi _ => (RowKit.intOf hi).toNat - (RowKit.intOf lo).toNat)
  case atStart => exact ⟨0, l.length, rfl, rfl, Nat.zero_le _, hi, Nat.le_refl _, Ext.refl _ _⟩
  case round =>
    obtain ⟨a, b, rfl, rfl, ha, hb, hbl, hx⟩ := hrel
    have ha0 : (0 : Int) ≤ (a : Int) := Int.natCast_nonneg _
    have hb0 : (0 : Int) ≤ (b : Int) := Int.natCast_nonneg _
    by_cases hlt : a < b
    · have hlt1 : (a : Int) < (b : Int) := by omega
      have hlt2 : decide ((a : Int) < (b : Int)) = true := decide_eq_true hlt1
      obtain ⟨m, hm⟩ : ∃ m, (a + b) / 2 = m := ⟨_, rfl⟩
      have hm1 : a ≤ m ∧ m < b := by omega
      have hmz : ((a : Int) + (b : Int)) / 2 = (m : Int) := by omega
      have hw1 : wrap64 ((a : Int) + (b : Int)) = (a : Int) + (b : Int) := by unfold wrap64; omega
      have hw2 : IntKind.u64.wrap ((a : Int) + (b : Int)) = (a : Int) + (b : Int) := by rw [IntKind.wrap_u64]; omega
      have hw3 : wrap64 (m : Int) = (m : Int) := by unfold wrap64; omega
      have hml : (m : Int) < (l.length : Int) := by omega
      have hmn : (0 : Int) ≤ (m : Int) := Int.natCast_nonneg _
      have hrw := h.ext hx (fun _ _ _ => id)
      obtain ⟨bb, o, hA, hbb, d0, d1⟩ := hrw.it m (by omega)
      obtain ⟨⟨k, v⟩, hkm⟩ : ∃ x, l.getD m (emp, emp) = x := ⟨_, rfl⟩
      rw [hkm] at d0 d1
      dsimp only at d0 d1
      have hd1 : Op.bytesLess k.toList name.toList = true → m < i := fun e => Nat.not_le.1 (fun c => by
        have := H2.out m c (by omega)
        rw [hkm, e] at this
        cases this)
      have hd2 : Op.bytesLess k.toList name.toList = false → i ≤ m := fun e => Nat.not_lt.1 (fun c => by
        have := H1.out m c
        rw [hkm, e] at this
        cases this)
      have hcl := cmpR_lt k name
      have HD1 := Lib.hid hd1
      have HD2 := Lib.hid hd2
      have HCL := Lib.hid hcl
      subst hA
      clear hd1 hd2 hcl hkm hm
      go_wp2_with fail
      refine tree_cmp (k, v) name wr ?_
      dsimp only
      intro w1 hx1
      replace hx := hx.trans hx1 (fun _ _ h => h)
      have hcl := HCL.out
      generalize cmpR k name = cr at *
      cases hL : Op.bytesLess k.toList name.toList
      · have hc1 : ¬ cr < 0 := by
          intro e
          have := hcl.1 e
          rw [hL] at this
          cases this
        have hc2 : decide (cr < 0) = false := decide_eq_false hc1
        have him := HD2.out hL
        clear hcl hL HCL
        go_wp2_with fail
        go_roundw
        case rel => exact ⟨a, m, rfl, by first | rfl | go_num, ha, him, by omega, hx⟩
        case measure => simp [RowKit.intOf]; omega
      · have hc1 : cr < 0 := hcl.2 hL
        have hc2 : decide (cr < 0) = true := decide_eq_true hc1
        have him := HD1.out hL
        clear hcl hL HCL
        go_wp2_with fail
        go_roundw
        case rel => exact ⟨m + 1, b, by first | rfl | go_num, rfl, by omega, hb, hbl, hx⟩
        case measure => simp [RowKit.intOf]; omega
    · obtain rfl : a = b := by omega
      obtain rfl : a = i := by omega
      have hlt1 : ¬ (a : Int) < (a : Int) := by omega
      have hlt2 : decide ((a : Int) < (a : Int)) = false := decide_eq_false hlt1
      by_cases hal : a < l.length
      · have hal1 : (a : Int) < (l.length : Int) := by omega
        have hal2 : decide ((a : Int) < (l.length : Int)) = true := decide_eq_true hal1
        have hrw := h.ext hx (fun _ _ _ => id)
        obtain ⟨bb, o, hA, hbb, d0, d1⟩ := hrw.it a hal
        obtain ⟨⟨k, v⟩, hkm⟩ : ∃ x, l.getD a (emp, emp) = x := ⟨_, rfl⟩
        rw [hkm] at d0 d1 HR
        dsimp only at d0 d1 HR
        rw [show decide (a < l.length ∧ k = name) = decide (cmpR k name = 0) by rw [decide_eq_decide, cmpR_eq]; exact ⟨fun h => h.2, fun h => ⟨hal, h⟩⟩] at HR
        subst hA
        clear hkm hlt
        go_wp2_with fail
        refine tree_cmp (k, v) name wr ?_
        dsimp only
        intro w1 hx1
        replace hx := hx.trans hx1 (fun _ _ h => h)
        generalize cmpR k name = cr at *
        have hcz := int_beq cr 0
        generalize decide (cr = 0) = z at *
        go_wp2_with fail
        exact HR.out _ hx
      · have hal1 : ¬ (a : Int) < (l.length : Int) := by omega
        have hal2 : decide ((a : Int) < (l.length : Int)) = false := decide_eq_false hal1
        rw [show decide (a < l.length ∧ (l.getD a (emp, emp)).1 = name) = false from decide_eq_false (fun h => hal h.1)] at HR
        go_wp2_with fail
        exact HR.out _ hx
set_option maxHeartbeats 2000000 in
set_option maxRecDepth 100000 in
theorem tree_below (l : List It) (A : Option Addr) (c : Nat) (pre : ByteArray) (w : World) (h : Row w A (flat itC l)) (hs : TOk l) (hl : l.length ≤ 100000) (hc : l.length ≤ c) {R : Ending → World → Prop}
    (hR : ∀ A' c' w', Row w' A' (flat itC (belowR pre l)) → (belowR pre l).length ≤ c' → Below w.heap.size w w' → R (.returned (.slice A' (belowR pre l).length c')) w') :
    Calls Try.prog 24 #[.slice A l.length c, .string pre] w R := by
  have HR := Lib.hid hR
  clear hR
  have hl0 : (0 : Int) ≤ (l.length : Int) := Int.natCast_nonneg _
  obtain ⟨i, hi⟩ : ∃ i, posK kT pre l = i := ⟨_, rfl⟩
  have hil : i ≤ l.length := by rw [← hi]; exact posK_le l
  have h1 : ∀ t, t < i → ltB (l.getD t (emp, emp)).1 pre = true := fun t ht => posK_lt (d := (emp, emp)) (key := kT) l t (by rw [hi]; exact ht)
  have h2 : ∀ t, i ≤ t → t < l.length → ltB (l.getD t (emp, emp)).1 pre = false := fun t ht htl => posK_ge (d := (emp, emp)) (key := kT) l hs.srt t (by rw [hi]; exact ht) htl
  have HS := Lib.hid hs
  have H1 := Lib.hid h1
  have H2 := Lib.hid h2
  have hi0 : (0 : Int) ≤ (i : Int) := Int.natCast_nonneg _
  clear hi h1 h2 hs
  go_enter Try.func24, Try.ntmps24
  go_wp2_with fail
  refine bsearch_It l A c pre i w h (by omega) hil H1.out H2.out ?_
  intro w1 hx1
  have hb1 := hx1.below (Nat.le_refl _) (fun _ _ => id)
  clear hx1
  generalize decide (i < l.length ∧ (l.getD i (emp, emp)).1 = pre) = z at *
  go_wp2_with fail
  go_loopw [7] (fun s7 wx => ∃ t : Nat, s7 = .int .i64 (t : Int) ∧ i ≤ t ∧ t ≤ l.length ∧ Hid (∀ u, i ≤ u → u < t → beginsR (l.getD u (emp, emp)).1 pre = true) ∧ Below w.heap.size w wx) (fun s7 _ => l.length - (RowKit.intOf s7).toNat)
  case atStart => exact ⟨i, rfl, Nat.le_refl _, hil, Lib.hid (fun u h1 h2 => absurd h2 (by omega)), hb1⟩
  case round =>
    clear hb1
    obtain ⟨t, rfl, hit, htl, HB, hx⟩ := hrel
    have ht0 : (0 : Int) ≤ (t : Int) := Int.natCast_nonneg _
    by_cases hlt : t < l.length
    · have hj1 : (t : Int) < (l.length : Int) := by omega
      have hjd : decide ((t : Int) < (l.length : Int)) = true := decide_eq_true hj1
      obtain ⟨b, o, hA, hb, d0, d1⟩ := (h.below hx (Nat.le_refl _)).it t hlt
      obtain ⟨⟨k, m⟩, hkm⟩ : ∃ x, l.getD t (emp, emp) = x := ⟨_, rfl⟩
      rw [hkm] at d0 d1
      dsimp only at d0 d1
      have hnx : beginsR k pre = true → ∀ u, i ≤ u → u < t + 1 → beginsR (l.getD u (emp, emp)).1 pre = true := fun hb u h1 h2 => by
        by_cases e : u = t
        · rw [e, hkm]; exact hb
        · exact HB.out u h1 (by omega)
      have hen : beginsR k pre = false → belowR pre l = (l.drop i).take (t - i) := fun hb => below_slice HS.out.srt hit htl H1.out H2.out HB.out (fun _ => by rw [hkm]; exact hb)
      have HNX := Lib.hid hnx
      have HEN := Lib.hid hen
      subst hA
      clear hkm hnx hen
      have hbg := fun W => strings_HasPrefix k pre W
      generalize beginsR k pre = y at *
      go_wp2_with fail
      refine (hbg _).mono ?_
      rintro e w' ⟨rfl, nq, rfl⟩
      clear hbg
      replace hx := below_drewN hx nq
      clear d0 d1
      generalize wr.drewN nq = wa at *
      cases y
      · have hbe := HEN.out rfl
        have hs2 := (h.below hx (Nat.le_refl _)).part i (t - i)
        rw [← hbe] at hs2
        have hln : (belowR pre l).length = t - i := by rw [hbe, List.length_take, List.length_drop]; omega
        have ht1 : (i : Int) ≤ (t : Int) := by omega
        have ht2 : (t : Int) ≤ (c : Int) := by omega
        have hci : ¬ c = i := by omega
        have hf := HR.out _ (c - i) wa hs2 (by omega) hx
        rw [hln] at hf
        have HF := Lib.hid hf
        clear hbe HEN HNX hs2 hln hf
        go_wp2_with fail
        exact HF.out
      · have HN := Lib.hid (HNX.out rfl)
        clear HEN HNX
        go_wp2_with fail
        go_roundw
        case rel => exact ⟨t + 1, by go_num, by omega, by omega, HN, hx⟩
        case measure => simp [RowKit.intOf]; omega
    · have hte : t = l.length := by omega
      have hj1 : ¬ (t : Int) < (l.length : Int) := by omega
      have hjd : decide ((t : Int) < (l.length : Int)) = false := decide_eq_false hj1
      have hbe := below_slice (pre := pre) (t := t) HS.out.srt hit htl H1.out H2.out HB.out (fun h => absurd h hlt)
      have hln : (belowR pre l).length = t - i := by rw [hbe, List.length_take, List.length_drop]; omega
      have ht1 : (i : Int) ≤ (t : Int) := by omega
      have ht2 : (t : Int) ≤ (c : Int) := by omega
      by_cases h0 : i = t
      · have hnil : belowR pre l = [] := List.eq_nil_of_length_eq_zero (by omega)
        have hf := fun A' c' => HR.out A' c' wr (by rw [hnil]; exact .inl rfl) (by omega) hx
        rw [hln] at hf
        have HF := Lib.hid hf
        clear hbe hln hf hnil hte h0
        go_wp2_with fail
        all_goals exact HF.out _ _
      · obtain ⟨b, o, hA, _, _⟩ := (h.below hx (Nat.le_refl _)).it i (by omega)
        subst hA
        have hs2 := (h.below hx (Nat.le_refl _)).part i (t - i)
        rw [← hbe] at hs2
        have hci : ¬ c = i := by omega
        have hf := HR.out _ (c - i) wr hs2 (by omega) hx
        rw [hln] at hf
        have HF := Lib.hid hf
        clear hbe hs2 hln hf hte h0
        go_wp2_with fail
        exact HF.out
end
end Go.Proofs.Ytlkjonlipnmbnaa
