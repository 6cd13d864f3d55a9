/- spenceref21.Great, Below; tree.below. -/
import Derived.Test.YtlkjonlipnmbnaaTreeCheck
namespace Go.Proofs.Ytlkjonlipnmbnaa
open Go.RowKit Go.Lib
section
set_option maxHeartbeats 2000000 in
set_option maxRecDepth 100000 in
theorem ref21_Great (l : List It) (A : Option Addr) (c : Nat) (w : World) (h : Row w A (flat itC l)) {R : Ending → World → Prop}
    (hR : ∀ b, (b = false → l.length ≤ 60) → R (.returned (.bool b)) w) :
    Calls Try.prog 8 #[.slice A l.length c] w R := by
  have HR := Lib.hid hR
  clear hR
  have hl0 : (0 : Int) ≤ (l.length : Int) := Int.natCast_nonneg _
  by_cases hbig : 60 < l.length
  · have hb1 : (60 : Int) < (l.length : Int) := by omega
    have hb2 : decide ((60 : Int) < (l.length : Int)) = true := decide_eq_true hb1
    go_enter Try.func8, Try.ntmps8
    go_wp2_with fail
    exact HR.out true (fun e => by cases e)
  have hb1 : ¬ (60 : Int) < (l.length : Int) := by omega
  have hb2 : decide ((60 : Int) < (l.length : Int)) = false := decide_eq_false hb1
  go_enter Try.func8, Try.ntmps8
  go_wp2_with fail
  clear hb1 hb2
  go_loopw [3] (fun i w' => ∃ j : Nat, i = .int .i64 (j : Int) ∧ j ≤ l.length ∧ w' = w) (fun i _ => l.length - (RowKit.intOf i).toNat)
  case atStart => exact ⟨0, rfl, Nat.zero_le _, rfl⟩
  case round =>
    obtain ⟨j, rfl, hj, rfl⟩ := hrel
    have hj0 : (0 : Int) ≤ (j : Int) := Int.natCast_nonneg _
    by_cases hlt : j < l.length
    · have hj1 : (j : Int) < (l.length : Int) := by omega
      have hjd : decide ((j : Int) < (l.length : Int)) = true := decide_eq_true hj1
      obtain ⟨b, o, hA, hb, d0, d1⟩ := h.it j hlt
      obtain ⟨⟨k, m⟩, hkm⟩ : ∃ x, l.getD j (emp, emp) = x := ⟨_, rfl⟩
      rw [hkm] at d0 d1
      dsimp only at d0 d1
      subst hA
      clear hkm
      by_cases h1 : 100 < k.size
      · have e1 : (100 : Int) < (k.size : Int) := by omega
        have e2 : decide ((100 : Int) < (k.size : Int)) = true := decide_eq_true e1
        go_wp2_with fail
        exact HR.out true (fun e => by cases e)
      have e1 : ¬ (100 : Int) < (k.size : Int) := by omega
      have e2 : decide ((100 : Int) < (k.size : Int)) = false := decide_eq_false e1
      by_cases h2 : 100 < m.size
      · have e3 : (100 : Int) < (m.size : Int) := by omega
        have e4 : decide ((100 : Int) < (m.size : Int)) = true := decide_eq_true e3
        go_wp2_with fail
        exact HR.out true (fun e => by cases e)
      · have e3 : ¬ (100 : Int) < (m.size : Int) := by omega
        have e4 : decide ((100 : Int) < (m.size : Int)) = false := decide_eq_false e3
        go_wp2_with fail
        go_roundw
        case rel => exact ⟨j + 1, by go_num, by omega, trivial⟩
        case measure => simp [RowKit.intOf]; omega
    · have hj1 : ¬ (j : Int) < (l.length : Int) := by omega
      have hjd : decide ((j : Int) < (l.length : Int)) = false := decide_eq_false hj1
      go_wp2_with fail
      exact HR.out false (fun _ => by omega)
theorem infoT_it : (Try.prog.info? 38).map (fun i => (i.zero, i.size, i.bytes)) = some (some (.agg #[.string ⟨#[]⟩, .string ⟨#[]⟩]), 2, 32) := by kernel_rfl
theorem itT_one (x : It) : ∀ u ∈ itC x, u.oneCell' = true := fun u hu => by
  simp only [itC, List.mem_cons, List.not_mem_nil, or_false] at hu
  rcases hu with rfl | rfl <;> rfl
theorem below_snoc (pre : ByteArray) (l : List It) (j : Nat) (h : j < l.length) : belowR pre (l.take (j + 1)) = if beginsR (l.getD j (emp, emp)).1 pre = true then belowR pre (l.take j) ++ [l.getD j (emp, emp)] else belowR pre (l.take j) := by
  unfold belowR
  rw [List.take_succ_eq_append_getElem h, List.filter_append, getD_at l j _ h]
  by_cases hb : beginsR l[j].1 pre = true <;> simp [hb]
theorem below_len (pre : ByteArray) (l : List It) : (belowR pre l).length ≤ l.length := List.length_filter_le _ _
set_option maxHeartbeats 4000000 in
set_option maxRecDepth 100000 in
theorem ref21_Below (l : List It) (A : Option Addr) (c : Nat) (pre : ByteArray) (w : World) (h : Row w A (flat itC l)) (hl : l.length ≤ 1000000) {R : Ending → World → Prop}
    (hR : ∀ A' c' w', Own w' w.heap.size 38 2 itC (.slice A' (belowR pre l).length c') (belowR pre l) → Below w.heap.size w w' → R (.returned (.slice A' (belowR pre l).length c')) w') :
    Calls Try.prog 35 #[.slice A l.length c, .string pre] w R := by
  obtain ⟨i0, hi0, hI0, hI1, hI2⟩ := info_parts infoT_it
  have HR := Lib.hid hR
  clear hR
  have hl0 : (0 : Int) ≤ (l.length : Int) := Int.natCast_nonneg _
  go_enter Try.func35, Try.ntmps35
  go_wp2_with fail
  go_loopw [5, 6] (fun s5 i wx => ∃ (j : Nat) (A5 : Option Addr) (c5 : Nat), i = .int .i64 (j : Int) ∧ j ≤ l.length ∧ s5 = .slice A5 (belowR pre (l.take j)).length c5 ∧ Own wx w.heap.size 38 2 itC (.slice A5 (belowR pre (l.take j)).length c5) (belowR pre (l.take j)) ∧ Below w.heap.size w wx) (fun _ i _ => l.length - (RowKit.intOf i).toNat)
  case atStart => exact ⟨0, none, 0, rfl, Nat.zero_le _, rfl, Own.nil _ _ _ _, Below.refl _ _⟩
  case round =>
    obtain ⟨j, A5, c5, rfl, hj, rfl, hown, hx⟩ := hrel
    have hj0 : (0 : Int) ≤ (j : Int) := Int.natCast_nonneg _
    by_cases hlt : j < l.length
    · have hj1 : (j : Int) < (l.length : Int) := by omega
      have hjd : decide ((j : Int) < (l.length : Int)) = true := decide_eq_true hj1
      obtain ⟨b, o, hA, hb, d0, d1⟩ := (h.below hx (Nat.le_refl _)).it j hlt
      have hsn := below_snoc pre l j hlt
      have hpl := below_len pre (l.take j)
      rw [List.length_take] at hpl
      obtain ⟨⟨k, m⟩, hkm⟩ : ∃ x, l.getD j (emp, emp) = x := ⟨_, rfl⟩
      rw [hkm] at d0 d1 hsn
      dsimp only at d0 d1 hsn
      obtain ⟨P, hP⟩ : ∃ P, belowR pre (l.take j) = P := ⟨_, rfl⟩
      rw [hP] at hown hsn hpl ⊢
      have hPl : P.length ≤ 1000000 := by omega
      have HSN := Lib.hid hsn
      subst hA
      clear hkm hsn hP hpl
      have hbg := fun W => ref20_Begins k pre W
      obtain ⟨z, hz⟩ : ∃ z, beginsR k pre = z := ⟨_, rfl⟩
      rw [hz] at hbg
      have hsn := HSN.out
      rw [hz] at hsn
      replace HSN := Lib.hid hsn
      clear hz hsn
      go_wp2_with fail
      refine (hbg _).mono ?_
      rintro e w' ⟨rfl, nq, rfl⟩
      replace hx := below_drewN hx nq
      replace hown : Own (wr.drewN nq) _ _ _ _ _ _ := hown
      replace d0 : (wr.drewN nq).cell? _ = _ := d0
      replace d1 : (wr.drewN nq).cell? _ = _ := d1
      generalize wr.drewN nq = wa at *
      clear hbg
      cases z
      · have hsn := HSN.out
        rw [if_neg (by decide)] at hsn
        replace HSN := Lib.hid hsn
        clear hsn
        go_wp2_with fail
        go_roundw
        case rel => exact ⟨j + 1, A5, c5, by go_num, by omega, by rw [HSN.out], by rw [HSN.out]; exact hown, hx⟩
        case measure => simp [RowKit.intOf]; omega
      · have hsn := HSN.out
        rw [if_pos rfl] at hsn
        have HSN2 := Lib.hid hsn
        have hpl : (P ++ [(k, m)]).length = P.length + 1 := by simp
        have HPL := Lib.hid hpl
        clear hsn hpl HSN
        go_wp2_with (first
          | (at_builtin; refine wpList_append_one rfl _ _ _ (by rfl) w.heap.size 38 i0 _ 2 32 Try.underlying22 hi0 hI0 hI1 hI2 rfl (by decide) itC (.slice A5 P.length c5) P (by rfl) (hown.alloc _) (k, m) ⟨wa.heap.size, 0, none⟩ 1 (by rfl) rfl ((Blk.new _ _ _).news rfl) (itT_one _) (by unfold maxLen; omega) (by omega) (Nat.le_trans hx.size (by simp)) ?_
             intro g9 c9 w9 hown9 hx9 hst9))
        have hb9 := below_ext (hx.alloc hx.size (.cells #[.string k, .string m] 38)) (Nat.le_refl _) hx9 (fun b e => (hown.lt b e).1)
        go_roundw
        case rel => exact ⟨j + 1, some ⟨g9, 0, none⟩, c9, by go_num, by omega, by rw [HSN2.out, HPL.out], by rw [HSN2.out, HPL.out]; exact hown9, hb9⟩
        case measure => simp [RowKit.intOf]; omega
    · have hje : j = l.length := by omega
      have hj1 : ¬ (j : Int) < (l.length : Int) := by omega
      have hjd : decide ((j : Int) < (l.length : Int)) = false := decide_eq_false hj1
      rw [hje, List.take_length] at hown ⊢
      clear hje
      generalize belowR pre l = P at *
      go_wp2_with fail
      exact HR.out _ _ _ hown hx
end
end Go.Proofs.Ytlkjonlipnmbnaa
