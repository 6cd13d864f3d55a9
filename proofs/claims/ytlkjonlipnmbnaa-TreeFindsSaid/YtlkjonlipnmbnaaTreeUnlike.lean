/- tree.unlike. (under way) -/
import Derived.Test.YtlkjonlipnmbnaaLaw21Marks
import Derived.Test.YtlkjonlipnmbnaaTreeDiff
import Derived.Maps.Own
import Derived.Maps.OwnOps
import Derived.Maps.OwnSet
import Derived.Maps.Keyed
import Derived.Deep.DeepAppendWide
namespace Go.Proofs.Ytlkjonlipnmbnaa
open Go.RowKit Go.Lib
section
theorem Row.tail_it {w : World} {b o : Nat} {x : It} {l : List It} (h : Row w (some ⟨b, o, none⟩) (flat itC (x :: l))) : Row w (some ⟨b, o + 2, none⟩) (flat itC l) := by
  have := h.part 1 l.length
  rwa [List.drop_one, List.tail_cons, List.take_length, Nat.one_mul] at this
set_option maxHeartbeats 4000000 in
set_option maxRecDepth 100000 in
theorem tree_unlike (a b : List It) (A B : Option Addr) (ca cb : Nat) (w : World) (ha : Row w A (flat itC a)) (hb : Row w B (flat itC b)) (hla : a.length ≤ ca) (hlb : b.length ≤ cb) (hsa : a.length ≤ 100000) (hsb : b.length ≤ 100000) {R : Ending → World → Prop}
    (hR : ∀ A' c' w', Own w' w.heap.size 9 1 pC (.slice A' (unlR a b).length c') (unlR a b) → Below w.heap.size w w' → R (.returned (.slice A' (unlR a b).length c')) w') :
    Calls Try.prog 32 #[.slice A a.length ca, .slice B b.length cb] w R := by
  obtain ⟨i1, hi1, hJ0, hJ1, hJ2⟩ := info_parts infoT_str
  have HR := Lib.hid hR
  clear hR
  obtain ⟨U, hU⟩ : ∃ U, unlR a b = U := ⟨_, rfl⟩
  have HU : Hid ([] ++ unlR a b = U) := Lib.hid hU
  rw [hU] at HR
  clear hU
  go_enter Try.func32, Try.ntmps32
  go_wp2_with fail
  go_loopw [0, 1, 5] (fun s0 s1 s5 wx => ∃ (a' b' : List It) (A' B' : Option Addr) (ca' cb' : Nat) (out : List ByteArray) (A5 : Option Addr) (c5 : Nat), s0 = .slice A' a'.length ca' ∧ s1 = .slice B' b'.length cb' ∧ s5 = .slice A5 out.length c5 ∧ a'.length ≤ ca' ∧ b'.length ≤ cb' ∧ a'.length ≤ 100000 ∧ b'.length ≤ 100000 ∧ Row w A' (flat itC a') ∧ Row w B' (flat itC b') ∧ Own wx w.heap.size 9 1 pC (.slice A5 out.length c5) out ∧ Hid (out ++ unlR a' b' = U) ∧ out.length ≤ 200000 - a'.length - b'.length ∧ Below w.heap.size w wx) (fun s0 s1 _ _ => slLen s0 + slLen s1)
  case atStart => exact ⟨a, b, A, B, ca, cb, [], none, 0, rfl, rfl, rfl, hla, hlb, hsa, hsb, ha, hb, Own.nil _ _ _ _, HU, by simp, Below.refl _ _⟩
  case round =>
    clear ha hb hla hlb HU hsa hsb
    obtain ⟨a', b', A', B', ca', cb', out, A5, c5, rfl, rfl, rfl, hla, hlb, hsa, hsb, ha, hb, hown, HU, hout, hx⟩ := hrel
    cases a' with
    | nil =>
      cases b' with
      | nil =>
        have hU := HU.out
        rw [unl_nil, List.map_nil, List.append_nil] at hU
        subst hU
        clear HU
        go_wp2_with fail
        first | exact HR.out _ _ _ hown hx | (go_ret; exact HR.out _ _ _ hown hx)
      | cons y b' =>
        obtain ⟨m, hm⟩ : ∃ m, (y :: b').length = m := ⟨_, rfl⟩
        obtain ⟨bb, ob, hB, hbl, eb0, eb1⟩ := (hb.below hx (Nat.le_refl _)).it 0 (by simp)
        subst hB
        simp only [Nat.zero_mul, Nat.add_zero, List.getD_cons_zero] at eb0 eb1
        rw [hm] at hlb hsb hout ⊢
        rw [List.length_nil] at hla hsa hout ⊢
        have hm1 : m = b'.length + 1 := by rw [← hm]; rfl
        have m0 : (0 : Int) < (m : Int) := by omega
        have m1 : decide ((0 : Int) < (m : Int)) = true := decide_eq_true m0
        have m2 : ((m : Int) == 0) = false := by simp; omega
        have m3 : 0 < m := by omega
        have m4 : decide (0 < m) = true := decide_eq_true m3
        have m5 : (1 : Int) ≤ (m : Int) := by omega
        have HM := Lib.hid hm1
        clear hm hm1
        obtain ⟨y1, y2⟩ := y
        dsimp only at eb0 eb1
        have hU := HU.out
        rw [unl_nil, List.map_cons, ← unl_nil] at hU
        have HU2 : Hid ((out ++ [y1]) ++ unlR [] b' = U) := Lib.hid (by rw [List.append_assoc]; exact hU)
        have hq := hown.lt
        clear HU hU
        have htb := hb.tail_it
        clear hb
        by_cases hc1 : cb' = 1
        · have hm1 : m = 1 := by omega
          have hnil : b' = [] := List.eq_nil_of_length_eq_zero (by have := HM.out; omega)
          subst hnil
          subst hc1
          subst hm1
          go_wp2_with fail
          go_quiet (fail)
          go_wp2_with fail
          replace eb0 : (wr.drewN nq).cell? ⟨bb, ob, none⟩ = some (.string y1) := eb0
          replace eb1 : (wr.drewN nq).cell? ⟨bb, ob + 1, none⟩ = some (.string y2) := eb1
          replace hown : Own (wr.drewN nq) w.heap.size 9 1 pC (.slice A5 out.length c5) out := hown
          replace hx := below_drewN hx nq
          replace hq := hown.lt
          clear hbl
          generalize wr.drewN nq = wk at *
          go_quiet (fail)
          go_wp2_with (first
            | (at_builtin; refine wpList_append_one rfl _ _ _ (by rfl) w.heap.size 9 i1 _ 1 16 Try.underlying31 hi1 hJ0 hJ1 hJ2 rfl (by decide) pC (.slice A5 out.length c5) out (by rfl) ((show Own (wk.drewN nq) w.heap.size 9 1 pC (.slice A5 out.length c5) out from hown).alloc _) y1 ⟨wk.heap.size, 0, none⟩ 1 (by rfl) rfl ((Blk.new _ _ _).news rfl) (pC_one _) (by unfold maxLen; omega) (by omega) (Nat.le_trans hx.size (by simp)) ?_
               intro Az cz wz hnz hxz hstz))
          have hbz := below_ext ((below_drewN hx nq).alloc hx.size (.cells #[.string y1] 9)) (Nat.le_refl _) hxz (fun b e => (hown.lt b e).1)
          have hlz : (out ++ [y1]).length = out.length + 1 := by simp
          exact ⟨⟨[], [], A', some ⟨bb, ob, none⟩, ca', 0, out ++ [y1], some ⟨Az, 0, none⟩, cz, by rfl, by go_num, by rw [hlz], by simp, by simp, by simp, by simp, ha, .inl rfl, by rw [hlz]; exact hnz, HU2, by rw [hlz]; simp; omega, hbz⟩, by simp [slLen]⟩
        · have hma := HM.out
          have HM2 : Hid (m - 1 = b'.length) := Lib.hid (by omega)
          clear hma
          go_wp2_with fail
          go_quiet (fail)
          go_wp2_with fail
          replace eb0 : (wr.drewN nq).cell? ⟨bb, ob, none⟩ = some (.string y1) := eb0
          replace eb1 : (wr.drewN nq).cell? ⟨bb, ob + 1, none⟩ = some (.string y2) := eb1
          replace hown : Own (wr.drewN nq) w.heap.size 9 1 pC (.slice A5 out.length c5) out := hown
          replace hx := below_drewN hx nq
          replace hq := hown.lt
          clear hbl
          generalize wr.drewN nq = wk at *
          go_quiet (fail)
          go_wp2_with (first
            | (at_builtin; refine wpList_append_one rfl _ _ _ (by rfl) w.heap.size 9 i1 _ 1 16 Try.underlying31 hi1 hJ0 hJ1 hJ2 rfl (by decide) pC (.slice A5 out.length c5) out (by rfl) ((show Own (wk.drewN nq) w.heap.size 9 1 pC (.slice A5 out.length c5) out from hown).alloc _) y1 ⟨wk.heap.size, 0, none⟩ 1 (by rfl) rfl ((Blk.new _ _ _).news rfl) (pC_one _) (by unfold maxLen; omega) (by omega) (Nat.le_trans hx.size (by simp)) ?_
               intro Az cz wz hnz hxz hstz))
          have hbz := below_ext ((below_drewN hx nq).alloc hx.size (.cells #[.string y1] 9)) (Nat.le_refl _) hxz (fun b e => (hown.lt b e).1)
          have hlz : (out ++ [y1]).length = out.length + 1 := by simp
          refine ⟨⟨[], b', A', some ⟨bb, ob + 2, none⟩, ca', cb' - 1, out ++ [y1], some ⟨Az, 0, none⟩, cz, by rfl, by rw [HM2.out], by rw [hlz], by simp, by have := HM2.out; omega, by simp, by have := HM2.out; omega, ha, htb, by rw [hlz]; exact hnz, HU2, by have := HM2.out; rw [hlz, List.length_nil]; omega, hbz⟩, by simp [slLen]; omega⟩
    | cons x a' =>
      cases b' with
      | nil =>
        obtain ⟨n, hn⟩ : ∃ n, (x :: a').length = n := ⟨_, rfl⟩
        obtain ⟨ba, oa, hA, hal, ea0, ea1⟩ := (ha.below hx (Nat.le_refl _)).it 0 (by simp)
        subst hA
        simp only [Nat.zero_mul, Nat.add_zero, List.getD_cons_zero] at ea0 ea1
        rw [hn] at hla hsa hout ⊢
        rw [List.length_nil] at hlb hsb hout ⊢
        have hn1 : n = a'.length + 1 := by rw [← hn]; rfl
        have n0 : (0 : Int) < (n : Int) := by omega
        have n1 : decide ((0 : Int) < (n : Int)) = true := decide_eq_true n0
        have n2 : ((n : Int) == 0) = false := by simp; omega
        have n3 : 0 < n := by omega
        have n4 : decide (0 < n) = true := decide_eq_true n3
        have n5 : (1 : Int) ≤ (n : Int) := by omega
        have HN := Lib.hid hn1
        clear hn hn1
        obtain ⟨x1, x2⟩ := x
        dsimp only at ea0 ea1
        have hU := HU.out
        rw [unl_none, List.map_cons, ← unl_none] at hU
        have HU2 : Hid ((out ++ [x1]) ++ unlR a' [] = U) := Lib.hid (by rw [List.append_assoc]; exact hU)
        have hq := hown.lt
        clear HU hU
        have hta := ha.tail_it
        clear ha
        by_cases hc1 : ca' = 1
        · have hn1 : n = 1 := by omega
          have hnil : a' = [] := List.eq_nil_of_length_eq_zero (by have := HN.out; omega)
          subst hnil
          subst hc1
          subst hn1
          go_wp2_with fail
          go_quiet (fail)
          go_wp2_with (first
            | (at_builtin; refine wpList_append_one rfl _ _ _ (by rfl) w.heap.size 9 i1 _ 1 16 Try.underlying31 hi1 hJ0 hJ1 hJ2 rfl (by decide) pC (.slice A5 out.length c5) out (by rfl) ((show Own (wr.drewN nq) w.heap.size 9 1 pC (.slice A5 out.length c5) out from hown).alloc _) x1 ⟨wr.heap.size, 0, none⟩ 1 (by rfl) rfl ((Blk.new _ _ _).news rfl) (pC_one _) (by unfold maxLen; omega) (by omega) (Nat.le_trans hx.size (by simp)) ?_
               intro Az cz wz hnz hxz hstz))
          have hbz := below_ext ((below_drewN hx nq).alloc hx.size (.cells #[.string x1] 9)) (Nat.le_refl _) hxz (fun b e => (hown.lt b e).1)
          have hlz : (out ++ [x1]).length = out.length + 1 := by simp
          exact ⟨⟨[], [], some ⟨ba, oa, none⟩, B', 0, cb', out ++ [x1], some ⟨Az, 0, none⟩, cz, by go_num, by rfl, by rw [hlz], by simp, by simp, by simp, by simp, .inl rfl, hb, by rw [hlz]; exact hnz, HU2, by rw [hlz]; simp; omega, hbz⟩, by simp [slLen]⟩
        · have hna := HN.out
          have HN2 : Hid (n - 1 = a'.length) := Lib.hid (by omega)
          clear hna
          go_wp2_with fail
          go_quiet (fail)
          go_wp2_with (first
            | (at_builtin; refine wpList_append_one rfl _ _ _ (by rfl) w.heap.size 9 i1 _ 1 16 Try.underlying31 hi1 hJ0 hJ1 hJ2 rfl (by decide) pC (.slice A5 out.length c5) out (by rfl) ((show Own (wr.drewN nq) w.heap.size 9 1 pC (.slice A5 out.length c5) out from hown).alloc _) x1 ⟨wr.heap.size, 0, none⟩ 1 (by rfl) rfl ((Blk.new _ _ _).news rfl) (pC_one _) (by unfold maxLen; omega) (by omega) (Nat.le_trans hx.size (by simp)) ?_
               intro Az cz wz hnz hxz hstz))
          have hbz := below_ext ((below_drewN hx nq).alloc hx.size (.cells #[.string x1] 9)) (Nat.le_refl _) hxz (fun b e => (hown.lt b e).1)
          have hlz : (out ++ [x1]).length = out.length + 1 := by simp
          refine ⟨⟨a', [], some ⟨ba, oa + 2, none⟩, B', ca' - 1, cb', out ++ [x1], some ⟨Az, 0, none⟩, cz, by rw [HN2.out], by rfl, by rw [hlz], by have := HN2.out; omega, by simp, by have := HN2.out; omega, by simp, hta, hb, by rw [hlz]; exact hnz, HU2, by have := HN2.out; rw [hlz, List.length_nil]; omega, hbz⟩, by simp [slLen]; omega⟩
      | cons y b' =>
        obtain ⟨n, hn⟩ : ∃ n, (x :: a').length = n := ⟨_, rfl⟩
        obtain ⟨m, hm⟩ : ∃ m, (y :: b').length = m := ⟨_, rfl⟩
        obtain ⟨ba, oa, hA, hal, ea0, ea1⟩ := (ha.below hx (Nat.le_refl _)).it 0 (by simp)
        obtain ⟨bb, ob, hB, hbl, eb0, eb1⟩ := (hb.below hx (Nat.le_refl _)).it 0 (by simp)
        subst hA hB
        simp only [Nat.zero_mul, Nat.add_zero, List.getD_cons_zero] at ea0 ea1 eb0 eb1
        rw [hn] at hla hsa hout ⊢
        rw [hm] at hlb hsb hout ⊢
        have hn1 : n = a'.length + 1 := by rw [← hn]; rfl
        have hm1 : m = b'.length + 1 := by rw [← hm]; rfl
        have n0 : (0 : Int) < (n : Int) := by omega
        have n1 : decide ((0 : Int) < (n : Int)) = true := decide_eq_true n0
        have n2 : ((n : Int) == 0) = false := by simp; omega
        have n3 : 0 < n := by omega
        have n4 : decide (0 < n) = true := decide_eq_true n3
        have m0 : (0 : Int) < (m : Int) := by omega
        have m1 : decide ((0 : Int) < (m : Int)) = true := decide_eq_true m0
        have m2 : ((m : Int) == 0) = false := by simp; omega
        have m3 : 0 < m := by omega
        have m4 : decide (0 < m) = true := decide_eq_true m3
        have HN := Lib.hid hn1
        have HM := Lib.hid hm1
        clear hn hm hn1 hm1
        obtain ⟨x1, x2⟩ := x
        obtain ⟨y1, y2⟩ := y
        dsimp only at ea0 ea1 eb0 eb1
        cases e1 : ltB x1 y1
        · have e3 : Op.bytesLess x1.toList y1.toList = false := e1
          have n5 : (1 : Int) ≤ (n : Int) := by omega
          have m5 : (1 : Int) ≤ (m : Int) := by omega
          have hU := HU.out
          have hq := hown.lt
          clear HU
          have hta := ha.tail_it
          have htb := hb.tail_it
          cases e2 : ltB y1 x1
          · skip
            have hxy1 : x1 = y1 := Classical.byContradiction fun hne => by have := ltB_tri e1 hne; rw [e2] at this; cases this
            subst hxy1
            rw [unl_eq (x := (x1, x2)) (y := (x1, y2)) a' b' rfl] at hU
            dsimp only at hU
            have e4 : (x1.toList == x1.toList) = true := by simp
            clear ha hb hal hbl e2 e1
            by_cases hh : x2 = y2
            · subst hh
              rw [if_pos rfl] at hU
              have HU2 := Lib.hid hU
              have e5 : (x2.toList == x2.toList) = true := by simp
              clear hU
              by_cases hc1 : ca' = 1
              · by_cases hc2 : cb' = 1
                · have hn1 : n = 1 := by omega
                  have hnil : a' = [] := List.eq_nil_of_length_eq_zero (by have := HN.out; omega)
                  subst hnil
                  subst hc1
                  subst hn1
                  have hm1 : m = 1 := by omega
                  have hnib : b' = [] := List.eq_nil_of_length_eq_zero (by have := HM.out; omega)
                  subst hnib
                  subst hc2
                  subst hm1
                  go_wp2_with fail
                  go_quiet (fail)
                  go_wp2_with fail
                  replace ea0 : (wr.drewN nq).cell? ⟨ba, oa, none⟩ = some (.string x1) := ea0
                  replace ea1 : (wr.drewN nq).cell? ⟨ba, oa + 1, none⟩ = some (.string x2) := ea1
                  replace eb0 : (wr.drewN nq).cell? ⟨bb, ob, none⟩ = some (.string x1) := eb0
                  replace eb1 : (wr.drewN nq).cell? ⟨bb, ob + 1, none⟩ = some (.string x2) := eb1
                  replace hown : Own (wr.drewN nq) w.heap.size 9 1 pC (.slice A5 out.length c5) out := hown
                  replace hx := below_drewN hx nq
                  replace hq := hown.lt
                  generalize wr.drewN nq = wk at *
                  go_quiet (fail)
                  go_wp2_with fail
                  replace ea0 : (wk.drewN nq).cell? ⟨ba, oa, none⟩ = some (.string x1) := ea0
                  replace ea1 : (wk.drewN nq).cell? ⟨ba, oa + 1, none⟩ = some (.string x2) := ea1
                  replace eb0 : (wk.drewN nq).cell? ⟨bb, ob, none⟩ = some (.string x1) := eb0
                  replace eb1 : (wk.drewN nq).cell? ⟨bb, ob + 1, none⟩ = some (.string x2) := eb1
                  replace hown : Own (wk.drewN nq) w.heap.size 9 1 pC (.slice A5 out.length c5) out := hown
                  replace hx := below_drewN hx nq
                  replace hq := hown.lt
                  generalize wk.drewN nq = wj at *
                  go_quiet (fail)
                  go_wp2_with fail
                  replace ea0 : (wj.drewN nq).cell? ⟨ba, oa, none⟩ = some (.string x1) := ea0
                  replace ea1 : (wj.drewN nq).cell? ⟨ba, oa + 1, none⟩ = some (.string x2) := ea1
                  replace eb0 : (wj.drewN nq).cell? ⟨bb, ob, none⟩ = some (.string x1) := eb0
                  replace eb1 : (wj.drewN nq).cell? ⟨bb, ob + 1, none⟩ = some (.string x2) := eb1
                  replace hown : Own (wj.drewN nq) w.heap.size 9 1 pC (.slice A5 out.length c5) out := hown
                  replace hx := below_drewN hx nq
                  replace hq := hown.lt
                  generalize wj.drewN nq = wi at *
                  go_quiet (fail)
                  go_wp2_with fail
                  exact ⟨⟨[], [], some ⟨ba, oa, none⟩, some ⟨bb, ob, none⟩, 0, 0, out, A5, c5, by go_num, by go_num, rfl, by simp, by simp, by simp, by simp, .inl rfl, .inl rfl, hown, HU2, by simp only [List.length_nil]; omega, below_drewN hx nq⟩, by simp [slLen]⟩
                · have hn1 : n = 1 := by omega
                  have hnil : a' = [] := List.eq_nil_of_length_eq_zero (by have := HN.out; omega)
                  subst hnil
                  subst hc1
                  subst hn1
                  have hma := HM.out
                  have HM2 : Hid (m - 1 = b'.length) := Lib.hid (by omega)
                  clear hma
                  go_wp2_with fail
                  go_quiet (fail)
                  go_wp2_with fail
                  replace ea0 : (wr.drewN nq).cell? ⟨ba, oa, none⟩ = some (.string x1) := ea0
                  replace ea1 : (wr.drewN nq).cell? ⟨ba, oa + 1, none⟩ = some (.string x2) := ea1
                  replace eb0 : (wr.drewN nq).cell? ⟨bb, ob, none⟩ = some (.string x1) := eb0
                  replace eb1 : (wr.drewN nq).cell? ⟨bb, ob + 1, none⟩ = some (.string x2) := eb1
                  replace hown : Own (wr.drewN nq) w.heap.size 9 1 pC (.slice A5 out.length c5) out := hown
                  replace hx := below_drewN hx nq
                  replace hq := hown.lt
                  generalize wr.drewN nq = wk at *
                  go_quiet (fail)
                  go_wp2_with fail
                  replace ea0 : (wk.drewN nq).cell? ⟨ba, oa, none⟩ = some (.string x1) := ea0
                  replace ea1 : (wk.drewN nq).cell? ⟨ba, oa + 1, none⟩ = some (.string x2) := ea1
                  replace eb0 : (wk.drewN nq).cell? ⟨bb, ob, none⟩ = some (.string x1) := eb0
                  replace eb1 : (wk.drewN nq).cell? ⟨bb, ob + 1, none⟩ = some (.string x2) := eb1
                  replace hown : Own (wk.drewN nq) w.heap.size 9 1 pC (.slice A5 out.length c5) out := hown
                  replace hx := below_drewN hx nq
                  replace hq := hown.lt
                  generalize wk.drewN nq = wj at *
                  go_quiet (fail)
                  go_wp2_with fail
                  replace ea0 : (wj.drewN nq).cell? ⟨ba, oa, none⟩ = some (.string x1) := ea0
                  replace ea1 : (wj.drewN nq).cell? ⟨ba, oa + 1, none⟩ = some (.string x2) := ea1
                  replace eb0 : (wj.drewN nq).cell? ⟨bb, ob, none⟩ = some (.string x1) := eb0
                  replace eb1 : (wj.drewN nq).cell? ⟨bb, ob + 1, none⟩ = some (.string x2) := eb1
                  replace hown : Own (wj.drewN nq) w.heap.size 9 1 pC (.slice A5 out.length c5) out := hown
                  replace hx := below_drewN hx nq
                  replace hq := hown.lt
                  generalize wj.drewN nq = wi at *
                  go_quiet (fail)
                  go_wp2_with fail
                  exact ⟨⟨[], b', some ⟨ba, oa, none⟩, some ⟨bb, ob + 2, none⟩, 0, cb' - 1, out, A5, c5, by go_num, by rw [HM2.out], rfl, by simp, by have := HM2.out; omega, by simp, by have := HM2.out; omega, .inl rfl, htb, hown, HU2, by have := HM2.out; simp only [List.length_nil]; omega, below_drewN hx nq⟩, by simp only [slLen]; omega⟩
              · by_cases hc2 : cb' = 1
                · have hna := HN.out
                  have HN2 : Hid (n - 1 = a'.length) := Lib.hid (by omega)
                  clear hna
                  have hm1 : m = 1 := by omega
                  have hnib : b' = [] := List.eq_nil_of_length_eq_zero (by have := HM.out; omega)
                  subst hnib
                  subst hc2
                  subst hm1
                  go_wp2_with fail
                  go_quiet (fail)
                  go_wp2_with fail
                  replace ea0 : (wr.drewN nq).cell? ⟨ba, oa, none⟩ = some (.string x1) := ea0
                  replace ea1 : (wr.drewN nq).cell? ⟨ba, oa + 1, none⟩ = some (.string x2) := ea1
                  replace eb0 : (wr.drewN nq).cell? ⟨bb, ob, none⟩ = some (.string x1) := eb0
                  replace eb1 : (wr.drewN nq).cell? ⟨bb, ob + 1, none⟩ = some (.string x2) := eb1
                  replace hown : Own (wr.drewN nq) w.heap.size 9 1 pC (.slice A5 out.length c5) out := hown
                  replace hx := below_drewN hx nq
                  replace hq := hown.lt
                  generalize wr.drewN nq = wk at *
                  go_quiet (fail)
                  go_wp2_with fail
                  replace ea0 : (wk.drewN nq).cell? ⟨ba, oa, none⟩ = some (.string x1) := ea0
                  replace ea1 : (wk.drewN nq).cell? ⟨ba, oa + 1, none⟩ = some (.string x2) := ea1
                  replace eb0 : (wk.drewN nq).cell? ⟨bb, ob, none⟩ = some (.string x1) := eb0
                  replace eb1 : (wk.drewN nq).cell? ⟨bb, ob + 1, none⟩ = some (.string x2) := eb1
                  replace hown : Own (wk.drewN nq) w.heap.size 9 1 pC (.slice A5 out.length c5) out := hown
                  replace hx := below_drewN hx nq
                  replace hq := hown.lt
                  generalize wk.drewN nq = wj at *
                  go_quiet (fail)
                  go_wp2_with fail
                  replace ea0 : (wj.drewN nq).cell? ⟨ba, oa, none⟩ = some (.string x1) := ea0
                  replace ea1 : (wj.drewN nq).cell? ⟨ba, oa + 1, none⟩ = some (.string x2) := ea1
                  replace eb0 : (wj.drewN nq).cell? ⟨bb, ob, none⟩ = some (.string x1) := eb0
                  replace eb1 : (wj.drewN nq).cell? ⟨bb, ob + 1, none⟩ = some (.string x2) := eb1
                  replace hown : Own (wj.drewN nq) w.heap.size 9 1 pC (.slice A5 out.length c5) out := hown
                  replace hx := below_drewN hx nq
                  replace hq := hown.lt
                  generalize wj.drewN nq = wi at *
                  go_quiet (fail)
                  go_wp2_with fail
                  exact ⟨⟨a', [], some ⟨ba, oa + 2, none⟩, some ⟨bb, ob, none⟩, ca' - 1, 0, out, A5, c5, by rw [HN2.out], by go_num, rfl, by have := HN2.out; omega, by simp, by have := HN2.out; omega, by simp, hta, .inl rfl, hown, HU2, by have := HN2.out; simp only [List.length_nil]; omega, below_drewN hx nq⟩, by simp only [slLen]; omega⟩
                · have hna := HN.out
                  have HN2 : Hid (n - 1 = a'.length) := Lib.hid (by omega)
                  clear hna
                  have hma := HM.out
                  have HM2 : Hid (m - 1 = b'.length) := Lib.hid (by omega)
                  clear hma
                  go_wp2_with fail
                  go_quiet (fail)
                  go_wp2_with fail
                  replace ea0 : (wr.drewN nq).cell? ⟨ba, oa, none⟩ = some (.string x1) := ea0
                  replace ea1 : (wr.drewN nq).cell? ⟨ba, oa + 1, none⟩ = some (.string x2) := ea1
                  replace eb0 : (wr.drewN nq).cell? ⟨bb, ob, none⟩ = some (.string x1) := eb0
                  replace eb1 : (wr.drewN nq).cell? ⟨bb, ob + 1, none⟩ = some (.string x2) := eb1
                  replace hown : Own (wr.drewN nq) w.heap.size 9 1 pC (.slice A5 out.length c5) out := hown
                  replace hx := below_drewN hx nq
                  replace hq := hown.lt
                  generalize wr.drewN nq = wk at *
                  go_quiet (fail)
                  go_wp2_with fail
                  replace ea0 : (wk.drewN nq).cell? ⟨ba, oa, none⟩ = some (.string x1) := ea0
                  replace ea1 : (wk.drewN nq).cell? ⟨ba, oa + 1, none⟩ = some (.string x2) := ea1
                  replace eb0 : (wk.drewN nq).cell? ⟨bb, ob, none⟩ = some (.string x1) := eb0
                  replace eb1 : (wk.drewN nq).cell? ⟨bb, ob + 1, none⟩ = some (.string x2) := eb1
                  replace hown : Own (wk.drewN nq) w.heap.size 9 1 pC (.slice A5 out.length c5) out := hown
                  replace hx := below_drewN hx nq
                  replace hq := hown.lt
                  generalize wk.drewN nq = wj at *
                  go_quiet (fail)
                  go_wp2_with fail
                  replace ea0 : (wj.drewN nq).cell? ⟨ba, oa, none⟩ = some (.string x1) := ea0
                  replace ea1 : (wj.drewN nq).cell? ⟨ba, oa + 1, none⟩ = some (.string x2) := ea1
                  replace eb0 : (wj.drewN nq).cell? ⟨bb, ob, none⟩ = some (.string x1) := eb0
                  replace eb1 : (wj.drewN nq).cell? ⟨bb, ob + 1, none⟩ = some (.string x2) := eb1
                  replace hown : Own (wj.drewN nq) w.heap.size 9 1 pC (.slice A5 out.length c5) out := hown
                  replace hx := below_drewN hx nq
                  replace hq := hown.lt
                  generalize wj.drewN nq = wi at *
                  go_quiet (fail)
                  go_wp2_with fail
                  exact ⟨⟨a', b', some ⟨ba, oa + 2, none⟩, some ⟨bb, ob + 2, none⟩, ca' - 1, cb' - 1, out, A5, c5, by rw [HN2.out], by rw [HM2.out], rfl, by have := HN2.out; omega, by have := HM2.out; omega, by have := HN2.out; omega, by have := HM2.out; omega, hta, htb, hown, HU2, by have := HN2.out; have := HM2.out; omega, below_drewN hx nq⟩, by simp only [slLen]; omega⟩
            · rw [if_neg hh] at hU
              have HU2 : Hid ((out ++ [x1]) ++ unlR a' b' = U) := Lib.hid (by rw [List.append_assoc]; exact hU)
              have e5 : (x2.toList == y2.toList) = false := by
                rw [beq_eq_false_iff_ne]
                exact fun e => hh (by rw [ByteArray.toList_eq, ByteArray.toList_eq] at e; exact ByteArray.ext (Array.toList_inj.1 e))
              clear hU
              by_cases hc1 : ca' = 1
              · by_cases hc2 : cb' = 1
                · have hn1 : n = 1 := by omega
                  have hnil : a' = [] := List.eq_nil_of_length_eq_zero (by have := HN.out; omega)
                  subst hnil
                  subst hc1
                  subst hn1
                  have hm1 : m = 1 := by omega
                  have hnib : b' = [] := List.eq_nil_of_length_eq_zero (by have := HM.out; omega)
                  subst hnib
                  subst hc2
                  subst hm1
                  go_wp2_with fail
                  go_quiet (fail)
                  go_wp2_with fail
                  replace ea0 : (wr.drewN nq).cell? ⟨ba, oa, none⟩ = some (.string x1) := ea0
                  replace ea1 : (wr.drewN nq).cell? ⟨ba, oa + 1, none⟩ = some (.string x2) := ea1
                  replace eb0 : (wr.drewN nq).cell? ⟨bb, ob, none⟩ = some (.string x1) := eb0
                  replace eb1 : (wr.drewN nq).cell? ⟨bb, ob + 1, none⟩ = some (.string y2) := eb1
                  replace hown : Own (wr.drewN nq) w.heap.size 9 1 pC (.slice A5 out.length c5) out := hown
                  replace hx := below_drewN hx nq
                  replace hq := hown.lt
                  generalize wr.drewN nq = wk at *
                  go_quiet (fail)
                  go_wp2_with fail
                  replace ea0 : (wk.drewN nq).cell? ⟨ba, oa, none⟩ = some (.string x1) := ea0
                  replace ea1 : (wk.drewN nq).cell? ⟨ba, oa + 1, none⟩ = some (.string x2) := ea1
                  replace eb0 : (wk.drewN nq).cell? ⟨bb, ob, none⟩ = some (.string x1) := eb0
                  replace eb1 : (wk.drewN nq).cell? ⟨bb, ob + 1, none⟩ = some (.string y2) := eb1
                  replace hown : Own (wk.drewN nq) w.heap.size 9 1 pC (.slice A5 out.length c5) out := hown
                  replace hx := below_drewN hx nq
                  replace hq := hown.lt
                  generalize wk.drewN nq = wj at *
                  go_quiet (fail)
                  go_wp2_with (first
                    | (at_builtin; refine wpList_append_one rfl _ _ _ (by rfl) w.heap.size 9 i1 _ 1 16 Try.underlying31 hi1 hJ0 hJ1 hJ2 rfl (by decide) pC (.slice A5 out.length c5) out (by rfl) ((show Own (wj.drewN nq) w.heap.size 9 1 pC (.slice A5 out.length c5) out from hown).alloc _) x1 ⟨wj.heap.size, 0, none⟩ 1 (by rfl) rfl ((Blk.new _ _ _).news rfl) (pC_one _) (by unfold maxLen; omega) (by omega) (Nat.le_trans hx.size (by simp)) ?_
                       intro Az cz wz hnz hxz hstz))
                  have hbz := below_ext ((below_drewN hx nq).alloc hx.size (.cells #[.string x1] 9)) (Nat.le_refl _) hxz (fun b e => (hown.lt b e).1)
                  have hlz : (out ++ [x1]).length = out.length + 1 := by simp
                  go_quiet (fail)
                  go_wp2_with fail
                  exact ⟨⟨[], [], some ⟨ba, oa, none⟩, some ⟨bb, ob, none⟩, 0, 0, (out ++ [x1]), some ⟨Az, 0, none⟩, cz, by go_num, by go_num, by rw [hlz], by simp, by simp, by simp, by simp, .inl rfl, .inl rfl, by rw [hlz]; exact hnz, HU2, by rw [hlz]; simp only [List.length_nil]; omega, below_drewN hbz _⟩, by simp [slLen]⟩
                · have hn1 : n = 1 := by omega
                  have hnil : a' = [] := List.eq_nil_of_length_eq_zero (by have := HN.out; omega)
                  subst hnil
                  subst hc1
                  subst hn1
                  have hma := HM.out
                  have HM2 : Hid (m - 1 = b'.length) := Lib.hid (by omega)
                  clear hma
                  go_wp2_with fail
                  go_quiet (fail)
                  go_wp2_with fail
                  replace ea0 : (wr.drewN nq).cell? ⟨ba, oa, none⟩ = some (.string x1) := ea0
                  replace ea1 : (wr.drewN nq).cell? ⟨ba, oa + 1, none⟩ = some (.string x2) := ea1
                  replace eb0 : (wr.drewN nq).cell? ⟨bb, ob, none⟩ = some (.string x1) := eb0
                  replace eb1 : (wr.drewN nq).cell? ⟨bb, ob + 1, none⟩ = some (.string y2) := eb1
                  replace hown : Own (wr.drewN nq) w.heap.size 9 1 pC (.slice A5 out.length c5) out := hown
                  replace hx := below_drewN hx nq
                  replace hq := hown.lt
                  generalize wr.drewN nq = wk at *
                  go_quiet (fail)
                  go_wp2_with fail
                  replace ea0 : (wk.drewN nq).cell? ⟨ba, oa, none⟩ = some (.string x1) := ea0
                  replace ea1 : (wk.drewN nq).cell? ⟨ba, oa + 1, none⟩ = some (.string x2) := ea1
                  replace eb0 : (wk.drewN nq).cell? ⟨bb, ob, none⟩ = some (.string x1) := eb0
                  replace eb1 : (wk.drewN nq).cell? ⟨bb, ob + 1, none⟩ = some (.string y2) := eb1
                  replace hown : Own (wk.drewN nq) w.heap.size 9 1 pC (.slice A5 out.length c5) out := hown
                  replace hx := below_drewN hx nq
                  replace hq := hown.lt
                  generalize wk.drewN nq = wj at *
                  go_quiet (fail)
                  go_wp2_with (first
                    | (at_builtin; refine wpList_append_one rfl _ _ _ (by rfl) w.heap.size 9 i1 _ 1 16 Try.underlying31 hi1 hJ0 hJ1 hJ2 rfl (by decide) pC (.slice A5 out.length c5) out (by rfl) ((show Own (wj.drewN nq) w.heap.size 9 1 pC (.slice A5 out.length c5) out from hown).alloc _) x1 ⟨wj.heap.size, 0, none⟩ 1 (by rfl) rfl ((Blk.new _ _ _).news rfl) (pC_one _) (by unfold maxLen; omega) (by omega) (Nat.le_trans hx.size (by simp)) ?_
                       intro Az cz wz hnz hxz hstz))
                  have hbz := below_ext ((below_drewN hx nq).alloc hx.size (.cells #[.string x1] 9)) (Nat.le_refl _) hxz (fun b e => (hown.lt b e).1)
                  have hlz : (out ++ [x1]).length = out.length + 1 := by simp
                  go_quiet (fail)
                  go_wp2_with fail
                  exact ⟨⟨[], b', some ⟨ba, oa, none⟩, some ⟨bb, ob + 2, none⟩, 0, cb' - 1, (out ++ [x1]), some ⟨Az, 0, none⟩, cz, by go_num, by rw [HM2.out], by rw [hlz], by simp, by have := HM2.out; omega, by simp, by have := HM2.out; omega, .inl rfl, htb, by rw [hlz]; exact hnz, HU2, by have := HM2.out; rw [hlz]; simp only [List.length_nil]; omega, below_drewN hbz _⟩, by simp only [slLen]; omega⟩
              · by_cases hc2 : cb' = 1
                · have hna := HN.out
                  have HN2 : Hid (n - 1 = a'.length) := Lib.hid (by omega)
                  clear hna
                  have hm1 : m = 1 := by omega
                  have hnib : b' = [] := List.eq_nil_of_length_eq_zero (by have := HM.out; omega)
                  subst hnib
                  subst hc2
                  subst hm1
                  go_wp2_with fail
                  go_quiet (fail)
                  go_wp2_with fail
                  replace ea0 : (wr.drewN nq).cell? ⟨ba, oa, none⟩ = some (.string x1) := ea0
                  replace ea1 : (wr.drewN nq).cell? ⟨ba, oa + 1, none⟩ = some (.string x2) := ea1
                  replace eb0 : (wr.drewN nq).cell? ⟨bb, ob, none⟩ = some (.string x1) := eb0
                  replace eb1 : (wr.drewN nq).cell? ⟨bb, ob + 1, none⟩ = some (.string y2) := eb1
                  replace hown : Own (wr.drewN nq) w.heap.size 9 1 pC (.slice A5 out.length c5) out := hown
                  replace hx := below_drewN hx nq
                  replace hq := hown.lt
                  generalize wr.drewN nq = wk at *
                  go_quiet (fail)
                  go_wp2_with fail
                  replace ea0 : (wk.drewN nq).cell? ⟨ba, oa, none⟩ = some (.string x1) := ea0
                  replace ea1 : (wk.drewN nq).cell? ⟨ba, oa + 1, none⟩ = some (.string x2) := ea1
                  replace eb0 : (wk.drewN nq).cell? ⟨bb, ob, none⟩ = some (.string x1) := eb0
                  replace eb1 : (wk.drewN nq).cell? ⟨bb, ob + 1, none⟩ = some (.string y2) := eb1
                  replace hown : Own (wk.drewN nq) w.heap.size 9 1 pC (.slice A5 out.length c5) out := hown
                  replace hx := below_drewN hx nq
                  replace hq := hown.lt
                  generalize wk.drewN nq = wj at *
                  go_quiet (fail)
                  go_wp2_with (first
                    | (at_builtin; refine wpList_append_one rfl _ _ _ (by rfl) w.heap.size 9 i1 _ 1 16 Try.underlying31 hi1 hJ0 hJ1 hJ2 rfl (by decide) pC (.slice A5 out.length c5) out (by rfl) ((show Own (wj.drewN nq) w.heap.size 9 1 pC (.slice A5 out.length c5) out from hown).alloc _) x1 ⟨wj.heap.size, 0, none⟩ 1 (by rfl) rfl ((Blk.new _ _ _).news rfl) (pC_one _) (by unfold maxLen; omega) (by omega) (Nat.le_trans hx.size (by simp)) ?_
                       intro Az cz wz hnz hxz hstz))
                  have hbz := below_ext ((below_drewN hx nq).alloc hx.size (.cells #[.string x1] 9)) (Nat.le_refl _) hxz (fun b e => (hown.lt b e).1)
                  have hlz : (out ++ [x1]).length = out.length + 1 := by simp
                  go_quiet (fail)
                  go_wp2_with fail
                  exact ⟨⟨a', [], some ⟨ba, oa + 2, none⟩, some ⟨bb, ob, none⟩, ca' - 1, 0, (out ++ [x1]), some ⟨Az, 0, none⟩, cz, by rw [HN2.out], by go_num, by rw [hlz], by have := HN2.out; omega, by simp, by have := HN2.out; omega, by simp, hta, .inl rfl, by rw [hlz]; exact hnz, HU2, by have := HN2.out; rw [hlz]; simp only [List.length_nil]; omega, below_drewN hbz _⟩, by simp only [slLen]; omega⟩
                · have hna := HN.out
                  have HN2 : Hid (n - 1 = a'.length) := Lib.hid (by omega)
                  clear hna
                  have hma := HM.out
                  have HM2 : Hid (m - 1 = b'.length) := Lib.hid (by omega)
                  clear hma
                  go_wp2_with fail
                  go_quiet (fail)
                  go_wp2_with fail
                  replace ea0 : (wr.drewN nq).cell? ⟨ba, oa, none⟩ = some (.string x1) := ea0
                  replace ea1 : (wr.drewN nq).cell? ⟨ba, oa + 1, none⟩ = some (.string x2) := ea1
                  replace eb0 : (wr.drewN nq).cell? ⟨bb, ob, none⟩ = some (.string x1) := eb0
                  replace eb1 : (wr.drewN nq).cell? ⟨bb, ob + 1, none⟩ = some (.string y2) := eb1
                  replace hown : Own (wr.drewN nq) w.heap.size 9 1 pC (.slice A5 out.length c5) out := hown
                  replace hx := below_drewN hx nq
                  replace hq := hown.lt
                  generalize wr.drewN nq = wk at *
                  go_quiet (fail)
                  go_wp2_with fail
                  replace ea0 : (wk.drewN nq).cell? ⟨ba, oa, none⟩ = some (.string x1) := ea0
                  replace ea1 : (wk.drewN nq).cell? ⟨ba, oa + 1, none⟩ = some (.string x2) := ea1
                  replace eb0 : (wk.drewN nq).cell? ⟨bb, ob, none⟩ = some (.string x1) := eb0
                  replace eb1 : (wk.drewN nq).cell? ⟨bb, ob + 1, none⟩ = some (.string y2) := eb1
                  replace hown : Own (wk.drewN nq) w.heap.size 9 1 pC (.slice A5 out.length c5) out := hown
                  replace hx := below_drewN hx nq
                  replace hq := hown.lt
                  generalize wk.drewN nq = wj at *
                  go_quiet (fail)
                  go_wp2_with (first
                    | (at_builtin; refine wpList_append_one rfl _ _ _ (by rfl) w.heap.size 9 i1 _ 1 16 Try.underlying31 hi1 hJ0 hJ1 hJ2 rfl (by decide) pC (.slice A5 out.length c5) out (by rfl) ((show Own (wj.drewN nq) w.heap.size 9 1 pC (.slice A5 out.length c5) out from hown).alloc _) x1 ⟨wj.heap.size, 0, none⟩ 1 (by rfl) rfl ((Blk.new _ _ _).news rfl) (pC_one _) (by unfold maxLen; omega) (by omega) (Nat.le_trans hx.size (by simp)) ?_
                       intro Az cz wz hnz hxz hstz))
                  have hbz := below_ext ((below_drewN hx nq).alloc hx.size (.cells #[.string x1] 9)) (Nat.le_refl _) hxz (fun b e => (hown.lt b e).1)
                  have hlz : (out ++ [x1]).length = out.length + 1 := by simp
                  go_quiet (fail)
                  go_wp2_with fail
                  exact ⟨⟨a', b', some ⟨ba, oa + 2, none⟩, some ⟨bb, ob + 2, none⟩, ca' - 1, cb' - 1, (out ++ [x1]), some ⟨Az, 0, none⟩, cz, by rw [HN2.out], by rw [HM2.out], by rw [hlz], by have := HN2.out; omega, by have := HM2.out; omega, by have := HN2.out; omega, by have := HM2.out; omega, hta, htb, by rw [hlz]; exact hnz, HU2, by have := HN2.out; have := HM2.out; rw [hlz]; omega, below_drewN hbz _⟩, by simp only [slLen]; omega⟩
          · have e4 : Op.bytesLess y1.toList x1.toList = true := e2
            rw [unl_gt _ _ e2] at hU
            have HU2 : Hid ((out ++ [y1]) ++ unlR ((x1, x2) :: a') b' = U) := Lib.hid (by rw [List.append_assoc]; exact hU)
            clear hU hb
            by_cases hc1 : cb' = 1
            · have hm1 : m = 1 := by omega
              have hnil : b' = [] := List.eq_nil_of_length_eq_zero (by have := HM.out; omega)
              subst hnil
              subst hc1
              subst hm1
              go_wp2_with fail
              go_quiet (fail)
              go_wp2_with fail
              replace ea0 : (wr.drewN nq).cell? ⟨ba, oa, none⟩ = some (.string x1) := ea0
              replace ea1 : (wr.drewN nq).cell? ⟨ba, oa + 1, none⟩ = some (.string x2) := ea1
              replace eb0 : (wr.drewN nq).cell? ⟨bb, ob, none⟩ = some (.string y1) := eb0
              replace eb1 : (wr.drewN nq).cell? ⟨bb, ob + 1, none⟩ = some (.string y2) := eb1
              replace hown : Own (wr.drewN nq) w.heap.size 9 1 pC (.slice A5 out.length c5) out := hown
              replace hx := below_drewN hx nq
              replace hq := hown.lt
              clear hal hbl
              generalize wr.drewN nq = wk at *
              go_quiet (fail)
              go_wp2_with (first
                | (at_builtin; refine wpList_append_one rfl _ _ _ (by rfl) w.heap.size 9 i1 _ 1 16 Try.underlying31 hi1 hJ0 hJ1 hJ2 rfl (by decide) pC (.slice A5 out.length c5) out (by rfl) ((show Own (wk.drewN nq) w.heap.size 9 1 pC (.slice A5 out.length c5) out from hown).alloc _) y1 ⟨wk.heap.size, 0, none⟩ 1 (by rfl) rfl ((Blk.new _ _ _).news rfl) (pC_one _) (by unfold maxLen; omega) (by omega) (Nat.le_trans hx.size (by simp)) ?_
                   intro Az cz wz hnz hxz hstz))
              have hbz := below_ext ((below_drewN hx nq).alloc hx.size (.cells #[.string y1] 9)) (Nat.le_refl _) hxz (fun b e => (hown.lt b e).1)
              have hlz : (out ++ [y1]).length = out.length + 1 := by simp
              exact ⟨⟨(x1, x2) :: a', [], some ⟨ba, oa, none⟩, some ⟨bb, ob, none⟩, ca', 0, out ++ [y1], some ⟨Az, 0, none⟩, cz, by rw [HN.out]; rfl, by go_num, by rw [hlz], by rw [List.length_cons, ← HN.out]; exact hla, by simp, by rw [List.length_cons, ← HN.out]; exact hsa, by simp, ha, .inl rfl, by rw [hlz]; exact hnz, HU2, by rw [hlz, List.length_cons, ← HN.out]; simp; omega, hbz⟩, by simp [slLen]⟩
            · have hma := HM.out
              have HM2 : Hid (m - 1 = b'.length) := Lib.hid (by omega)
              clear hma
              go_wp2_with fail
              go_quiet (fail)
              go_wp2_with fail
              replace ea0 : (wr.drewN nq).cell? ⟨ba, oa, none⟩ = some (.string x1) := ea0
              replace ea1 : (wr.drewN nq).cell? ⟨ba, oa + 1, none⟩ = some (.string x2) := ea1
              replace eb0 : (wr.drewN nq).cell? ⟨bb, ob, none⟩ = some (.string y1) := eb0
              replace eb1 : (wr.drewN nq).cell? ⟨bb, ob + 1, none⟩ = some (.string y2) := eb1
              replace hown : Own (wr.drewN nq) w.heap.size 9 1 pC (.slice A5 out.length c5) out := hown
              replace hx := below_drewN hx nq
              replace hq := hown.lt
              clear hal hbl
              generalize wr.drewN nq = wk at *
              go_quiet (fail)
              go_wp2_with (first
                | (at_builtin; refine wpList_append_one rfl _ _ _ (by rfl) w.heap.size 9 i1 _ 1 16 Try.underlying31 hi1 hJ0 hJ1 hJ2 rfl (by decide) pC (.slice A5 out.length c5) out (by rfl) ((show Own (wk.drewN nq) w.heap.size 9 1 pC (.slice A5 out.length c5) out from hown).alloc _) y1 ⟨wk.heap.size, 0, none⟩ 1 (by rfl) rfl ((Blk.new _ _ _).news rfl) (pC_one _) (by unfold maxLen; omega) (by omega) (Nat.le_trans hx.size (by simp)) ?_
                   intro Az cz wz hnz hxz hstz))
              have hbz := below_ext ((below_drewN hx nq).alloc hx.size (.cells #[.string y1] 9)) (Nat.le_refl _) hxz (fun b e => (hown.lt b e).1)
              have hlz : (out ++ [y1]).length = out.length + 1 := by simp
              refine ⟨⟨(x1, x2) :: a', b', some ⟨ba, oa, none⟩, some ⟨bb, ob + 2, none⟩, ca', cb' - 1, out ++ [y1], some ⟨Az, 0, none⟩, cz, by rw [HN.out]; rfl, by rw [HM2.out], by rw [hlz], by rw [List.length_cons, ← HN.out]; exact hla, by have := HM2.out; omega, by rw [List.length_cons, ← HN.out]; exact hsa, by have := HM2.out; omega, ha, htb, by rw [hlz]; exact hnz, HU2, by have := HM2.out; rw [hlz, List.length_cons, ← HN.out]; omega, hbz⟩, by simp [slLen]; omega⟩
        · have e2 : Op.bytesLess x1.toList y1.toList = true := e1
          have n5 : (1 : Int) ≤ (n : Int) := by omega
          have hU := HU.out
          rw [unl_lt _ _ e1] at hU
          have HU2 : Hid ((out ++ [x1]) ++ unlR a' ((y1, y2) :: b') = U) := Lib.hid (by rw [List.append_assoc]; exact hU)
          have hq := hown.lt
          clear HU hU
          have hta := ha.tail_it
          clear ha
          by_cases hc1 : ca' = 1
          · have hn1 : n = 1 := by omega
            have hnil : a' = [] := List.eq_nil_of_length_eq_zero (by have := HN.out; omega)
            subst hnil
            subst hc1
            subst hn1
            go_wp2_with fail
            go_quiet (fail)
            go_wp2_with (first
              | (at_builtin; refine wpList_append_one rfl _ _ _ (by rfl) w.heap.size 9 i1 _ 1 16 Try.underlying31 hi1 hJ0 hJ1 hJ2 rfl (by decide) pC (.slice A5 out.length c5) out (by rfl) ((show Own (wr.drewN nq) w.heap.size 9 1 pC (.slice A5 out.length c5) out from hown).alloc _) x1 ⟨wr.heap.size, 0, none⟩ 1 (by rfl) rfl ((Blk.new _ _ _).news rfl) (pC_one _) (by unfold maxLen; omega) (by omega) (Nat.le_trans hx.size (by simp)) ?_
                 intro Az cz wz hnz hxz hstz))
            have hbz := below_ext ((below_drewN hx nq).alloc hx.size (.cells #[.string x1] 9)) (Nat.le_refl _) hxz (fun b e => (hown.lt b e).1)
            have hlz : (out ++ [x1]).length = out.length + 1 := by simp
            exact ⟨⟨[], (y1, y2) :: b', some ⟨ba, oa, none⟩, some ⟨bb, ob, none⟩, 0, cb', out ++ [x1], some ⟨Az, 0, none⟩, cz, by go_num, by rw [HM.out]; rfl, by rw [hlz], by simp, by rw [List.length_cons, ← HM.out]; exact hlb, by simp, by rw [List.length_cons, ← HM.out]; exact hsb, .inl rfl, hb, by rw [hlz]; exact hnz, HU2, by rw [hlz, List.length_cons, ← HM.out]; simp; omega, hbz⟩, by simp [slLen]⟩
          · have hna := HN.out
            have HN2 : Hid (n - 1 = a'.length) := Lib.hid (by omega)
            clear hna
            go_wp2_with fail
            go_quiet (fail)
            go_wp2_with (first
              | (at_builtin; refine wpList_append_one rfl _ _ _ (by rfl) w.heap.size 9 i1 _ 1 16 Try.underlying31 hi1 hJ0 hJ1 hJ2 rfl (by decide) pC (.slice A5 out.length c5) out (by rfl) ((show Own (wr.drewN nq) w.heap.size 9 1 pC (.slice A5 out.length c5) out from hown).alloc _) x1 ⟨wr.heap.size, 0, none⟩ 1 (by rfl) rfl ((Blk.new _ _ _).news rfl) (pC_one _) (by unfold maxLen; omega) (by omega) (Nat.le_trans hx.size (by simp)) ?_
                 intro Az cz wz hnz hxz hstz))
            have hbz := below_ext ((below_drewN hx nq).alloc hx.size (.cells #[.string x1] 9)) (Nat.le_refl _) hxz (fun b e => (hown.lt b e).1)
            have hlz : (out ++ [x1]).length = out.length + 1 := by simp
            refine ⟨⟨a', (y1, y2) :: b', some ⟨ba, oa + 2, none⟩, some ⟨bb, ob, none⟩, ca' - 1, cb', out ++ [x1], some ⟨Az, 0, none⟩, cz, by rw [HN2.out], by rw [HM.out]; rfl, by rw [hlz], by have := HN2.out; omega, by rw [List.length_cons, ← HM.out]; exact hlb, by have := HN2.out; omega, by rw [List.length_cons, ← HM.out]; exact hsb, hta, hb, by rw [hlz]; exact hnz, HU2, by have := HN2.out; rw [hlz, List.length_cons, ← HM.out]; omega, hbz⟩, by simp [slLen]; omega⟩
end
end Go.Proofs.Ytlkjonlipnmbnaa
/- spenceref21: Hash, Unlike. -/
namespace Go.Proofs.Ytlkjonlipnmbnaa
open Go.RowKit Go.Lib
section
theorem ne_beq {x y : ByteArray} (h : x ≠ y) : (x.toList == y.toList) = false := by
  rw [beq_eq_false_iff_ne]
  exact fun e => h (by rw [ByteArray.toList_eq, ByteArray.toList_eq] at e; exact ByteArray.ext (Array.toList_inj.1 e))
set_option maxHeartbeats 2000000 in
set_option maxRecDepth 100000 in
theorem ref21_Hash (l : List It) (A : Option Addr) (c : Nat) (k : ByteArray) (w : World) (h : Row w A (flat itC l)) (hl : l.length ≤ 100000) :
    Calls Try.prog 34 #[.slice A l.length c, .string k] w fun e w' => e = .returned (.string (hashK l k)) ∧ w = w' := by
  obtain ⟨H, hH⟩ : ∃ H, hashK l k = H := ⟨_, rfl⟩
  have HH := Lib.hid hH
  rw [hH]
  clear hH
  go_enter Try.func34, Try.ntmps34
  go_wp2_with fail
  go_loopw [5] (fun s5 wx => ∃ (i : Nat), s5 = .int .i64 (i : Int) ∧ i ≤ l.length ∧ Hid (∀ u ∈ l.take i, u.1 ≠ k) ∧ wx = w) (fun s5 _ => l.length - (RowKit.intOf s5).toNat)
  case atStart => exact ⟨0, rfl, Nat.zero_le _, Lib.hid (fun _ h => absurd h (by simp)), rfl⟩
  case round =>
    obtain ⟨i, rfl, hi, hpre, rfl⟩ := hrel
    have hi0 : (0 : Int) ≤ (i : Int) := Int.natCast_nonneg _
    by_cases hlt : i < l.length
    · have hj1 : (i : Int) < (l.length : Int) := by omega
      have hjd : decide ((i : Int) < (l.length : Int)) = true := decide_eq_true hj1
      obtain ⟨b, o, hA, hbl, e0, e1⟩ := h.it i hlt
      subst hA
      have hdr := drop_at_ hlt
      obtain ⟨⟨x1, x2⟩, hx⟩ : ∃ x, l.getD i (emp, emp) = x := ⟨_, rfl⟩
      rw [hx] at e0 e1 hdr
      dsimp only at e0 e1
      have h3 : l = l.take i ++ (x1, x2) :: l.drop (i + 1) := by rw [← hdr, List.take_append_drop]
      by_cases hk : x1 = k
      · subst hk
        have hq : (x1.toList == x1.toList) = true := by simp
        have hv : H = x2 := by
          rw [← HH.out, h3]; exact hash_at (x := (x1, x2)) hpre.out
        clear h3 hdr hx hbl
        subst hv
        go_wp2_with fail
        first | exact ⟨rfl, rfl⟩ | (go_ret; exact ⟨rfl, rfl⟩)
      · have hq := ne_beq hk
        have hs := (drop_step hdr).2
        have hnx : Hid (∀ u ∈ l.take (i + 1), u.1 ≠ k) := Lib.hid (fun u hu => by
          rw [hs, List.mem_append, List.mem_singleton] at hu
          rcases hu with hu | rfl
          · exact hpre.out u hu
          · exact hk)
        clear h3 hdr hx hbl hs hpre
        go_wp2_with fail
        go_roundw
        case rel => exact ⟨i + 1, by go_num, by omega, hnx, trivial⟩
        case measure => simp [RowKit.intOf]; omega
    · have hj1 : ¬ (i : Int) < (l.length : Int) := by omega
      have hjd : decide ((i : Int) < (l.length : Int)) = false := decide_eq_false hj1
      have hv : H = emp := by
        rw [← HH.out]
        have := hpre.out
        rw [List.take_of_length_le (by omega)] at this
        exact hash_no this
      subst hv
      go_wp2_with fail
      first | exact ⟨rfl, rfl⟩ | (go_ret; exact ⟨rfl, rfl⟩)
end
end Go.Proofs.Ytlkjonlipnmbnaa
/- spenceref21.Unlike, tree.Unlike. -/
namespace Go.Proofs.Ytlkjonlipnmbnaa
open Go.RowKit Go.Lib
section
theorem emp_ne {x : ByteArray} (h : x.size = 32) : x ≠ emp := fun e => by rw [e] at h; exact absurd h (by decide)
set_option maxHeartbeats 4000000 in
set_option maxRecDepth 100000 in
theorem ref21_Unlike (a b : List It) (A B : Option Addr) (ca cb : Nat) (w : World) (ha : Row w A (flat itC a)) (hb : Row w B (flat itC b)) (hta : TOk a) (htb : TOk b) (hsa : a.length ≤ 100000) (hsb : b.length ≤ 100000) {R : Ending → World → Prop}
    (hR : ∀ A' c' w', Own w' w.heap.size 9 1 pC (.slice A' (unlR a b).length c') (unlR a b) → Below w.heap.size w w' → R (.returned (.slice A' (unlR a b).length c')) w') :
    Calls Try.prog 18 #[.slice A a.length ca, .slice B b.length cb] w R := by
  obtain ⟨i1, hi1, hJ0, hJ1, hJ2⟩ := info_parts infoT_str
  have HR := Lib.hid hR
  have HTA := Lib.hid hta
  have HTB := Lib.hid htb
  clear hR hta htb
  go_enter Try.func18, Try.ntmps18
  go_wp2_with fail
  go_loopw [5, 6, 7] (fun s5 s6 s7 wx => ∃ (i k : Nat) (out : List ByteArray) (A5 : Option Addr) (c5 : Nat), s6 = .int .i64 (i : Int) ∧ s7 = .int .i64 (k : Int) ∧ s5 = .slice A5 out.length c5 ∧ i ≤ a.length ∧ k ≤ b.length ∧ Own wx w.heap.size 9 1 pC (.slice A5 out.length c5) out ∧ Hid (RU a b i k out) ∧ out.length ≤ 200000 - (a.length - i) - (b.length - k) ∧ Below w.heap.size w wx) (fun _ s6 s7 _ => (a.length - (RowKit.intOf s6).toNat) + (b.length - (RowKit.intOf s7).toNat))
  case atStart => exact ⟨0, 0, [], none, 0, rfl, rfl, rfl, Nat.zero_le _, Nat.zero_le _, Own.nil _ _ _ _, Lib.hid (RU.start a b), by simp, Below.refl _ _⟩
  case round =>
    obtain ⟨i, k, out, A5, c5, rfl, rfl, rfl, hi, hk, hown, HRU, hout, hx⟩ := hrel
    have hi0 : (0 : Int) ≤ (i : Int) := Int.natCast_nonneg _
    have hk0 : (0 : Int) ≤ (k : Int) := Int.natCast_nonneg _
    by_cases hil : i < a.length
    · have hj1 : (i : Int) < (a.length : Int) := by omega
      have hj2 : decide ((i : Int) < (a.length : Int)) = true := decide_eq_true hj1
      have hsz := (HTA.out.sz _ (by rw [getD_at a i _ hil]; exact List.getElem_mem hil : a.getD i (emp, emp) ∈ a))
      obtain ⟨ba, oa, hA, _, e0, _⟩ := (ha.below hx (Nat.le_refl _)).it i hil
      by_cases hkl : k < b.length
      · have hm1 : (k : Int) < (b.length : Int) := by omega
        have hm2 : decide ((k : Int) < (b.length : Int)) = true := decide_eq_true hm1
        have htz := (HTB.out.sz _ (by rw [getD_at b k _ hkl]; exact List.getElem_mem hkl : b.getD k (emp, emp) ∈ b))
        obtain ⟨bb, ob, hB, _, f0, _⟩ := (hb.below hx (Nat.le_refl _)).it k hkl
        have hstep : (ltB (a.getD i (emp, emp)).1 (b.getD k (emp, emp)).1 = true → _) ∧ (ltB (b.getD k (emp, emp)).1 (a.getD i (emp, emp)).1 = true → _) ∧ ((a.getD i (emp, emp)).1 = (b.getD k (emp, emp)).1 → _) :=
          ⟨fun e => HRU.out.lt HTA.out HTB.out hil hkl e, fun e => HRU.out.gt HTA.out HTB.out hil hkl e, fun e => HRU.out.both HTA.out HTB.out (drop_at_ hil) (drop_at_ hkl) e⟩
        obtain ⟨⟨x1, x2⟩, hxa⟩ : ∃ x, a.getD i (emp, emp) = x := ⟨_, rfl⟩
        obtain ⟨⟨y1, y2⟩, hyb⟩ : ∃ x, b.getD k (emp, emp) = x := ⟨_, rfl⟩
        rw [hxa] at e0 hsz hstep
        rw [hyb] at f0 htz hstep
        dsimp only at e0 hsz f0 htz hstep
        obtain ⟨hz1, hz2⟩ := hsz
        obtain ⟨hz3, hz4⟩ := htz
        have hem := str_ne x1 (by omega)
        have hem' := str_ne' x1 (by omega)
        subst hA
        subst hB
        cases c1 : ltB x1 y1
        · cases c2 : ltB y1 x1
          · have he : x1 = y1 := Classical.byContradiction fun hne => by have := ltB_tri c1 hne; rw [c2] at this; cases this
            obtain ⟨hru, hha, hhb⟩ := hstep.2.2 he
            have HHA := Lib.hid hha
            have HHB := Lib.hid hhb
            subst he
            have hq : Op.bytesLess x1.toList x1.toList = false := c2
            clear hstep c1 c2 hha hhb HRU
            by_cases hh : x2 = y2
            · rw [if_pos hh] at hru
              have HRU2 := Lib.hid hru
              subst hh
              clear hru
              go_wp2_with fail
              refine (ref06_Below x1 x1 _ (by omega)).mono ?_
              rintro e w' ⟨rfl, nq, rfl⟩
              replace hx := below_drewN hx nq
              replace hown : Own (wr.drewN nq) w.heap.size 9 1 pC (.slice A5 out.length c5) out := hown
              replace e0 : (wr.drewN nq).cell? _ = _ := e0
              replace f0 : (wr.drewN nq).cell? _ = _ := f0
              generalize wr.drewN nq = wk at *
              go_wp2_with fail
              have hh1 := ref21_Hash a _ ca x1 wk (ha.below hx (Nat.le_refl _)) (by omega)
              rw [HHA.out] at hh1
              refine hh1.mono ?_
              rintro e w' ⟨rfl, rfl⟩
              clear hh1
              go_wp2_with fail
              have hh2 := ref21_Hash b _ cb x1 wk (hb.below hx (Nat.le_refl _)) (by omega)
              rw [HHB.out] at hh2
              refine hh2.mono ?_
              rintro e w' ⟨rfl, rfl⟩
              clear hh2
              go_wp2_with fail
              go_roundw
              case rel => exact ⟨i + 1, k + 1, out, A5, c5, by go_num, by go_num, rfl, by omega, by omega, hown, HRU2, by omega, hx⟩
              case measure => simp [RowKit.intOf]; omega
            · rw [if_neg hh] at hru
              have HRU2 := Lib.hid hru
              have hqq := ne_beq hh
              have hqn : (x2.toList != y2.toList) = true := by simp [bne, hqq]
              clear hru hh
              go_wp2_with fail
              refine (ref06_Below x1 x1 _ (by omega)).mono ?_
              rintro e w' ⟨rfl, nq, rfl⟩
              replace hx := below_drewN hx nq
              replace hown : Own (wr.drewN nq) w.heap.size 9 1 pC (.slice A5 out.length c5) out := hown
              replace e0 : (wr.drewN nq).cell? _ = _ := e0
              replace f0 : (wr.drewN nq).cell? _ = _ := f0
              generalize wr.drewN nq = wk at *
              go_wp2_with fail
              have hh1 := ref21_Hash a _ ca x1 wk (ha.below hx (Nat.le_refl _)) (by omega)
              rw [HHA.out] at hh1
              refine hh1.mono ?_
              rintro e w' ⟨rfl, rfl⟩
              clear hh1
              go_wp2_with fail
              have hh2 := ref21_Hash b _ cb x1 wk (hb.below hx (Nat.le_refl _)) (by omega)
              rw [HHB.out] at hh2
              refine hh2.mono ?_
              rintro e w' ⟨rfl, rfl⟩
              clear hh2
              go_wp2_with (first
                | (at_builtin; refine wpList_append_one rfl _ _ _ (by rfl) w.heap.size 9 i1 _ 1 16 Try.underlying31 hi1 hJ0 hJ1 hJ2 rfl (by decide) pC (.slice A5 out.length c5) out (by rfl) (hown.alloc _) x1 ⟨wk.heap.size, 0, none⟩ 1 (by rfl) rfl ((Blk.new _ _ _).news rfl) (pC_one _) (by unfold maxLen; omega) (by omega) (Nat.le_trans hx.size (by simp)) ?_
                   intro Az cz wz hnz hxz hstz
                   have hbz := below_ext (hx.alloc hx.size (.cells #[.string x1] 9)) (Nat.le_refl _) hxz (fun b e => (hown.lt b e).1)
                   clear hxz hstz hown hx
                   obtain ⟨_, _, hA2, _, e1, _⟩ := (ha.below hbz (Nat.le_refl _)).it i hil
                   cases hA2
                   rw [hxa] at e1
                   dsimp only at e1
                   obtain ⟨_, _, hB2, _, f1, _⟩ := (hb.below hbz (Nat.le_refl _)).it k hkl
                   cases hB2
                   rw [hyb] at f1
                   dsimp only at f1))
              have hlz : (out ++ [x1]).length = out.length + 1 := by simp
              go_roundw
              case rel => exact ⟨i + 1, k + 1, out ++ [x1], some ⟨Az, 0, none⟩, cz, by go_num, by go_num, by rw [hlz], by omega, by omega, by rw [hlz]; exact hnz, HRU2, by rw [hlz]; omega, hbz⟩
              case measure => simp [RowKit.intOf]; omega
          · obtain ⟨hru, hhb, hha⟩ := hstep.2.1 c2
            have HHA := Lib.hid hha
            have HHB := Lib.hid hhb
            have HRU2 := Lib.hid hru
            have hq : Op.bytesLess y1.toList x1.toList = true := c2
            have hne := ne_beq (ltB_ne c2).symm
            have hqq := ne_beq (emp_ne hz4).symm
            have hqn : (emp.toList != y2.toList) = true := by simp [bne, hqq]
            clear hstep c1 c2 hha hhb HRU hru
            go_wp2_with fail
            refine (ref06_Below y1 x1 _ (by omega)).mono ?_
            rintro e w' ⟨rfl, nq, rfl⟩
            replace hx := below_drewN hx nq
            replace hown : Own (wr.drewN nq) w.heap.size 9 1 pC (.slice A5 out.length c5) out := hown
            replace e0 : (wr.drewN nq).cell? _ = _ := e0
            replace f0 : (wr.drewN nq).cell? _ = _ := f0
            generalize wr.drewN nq = wk at *
            go_wp2_with fail
            have hh1 := ref21_Hash a _ ca y1 wk (ha.below hx (Nat.le_refl _)) (by omega)
            rw [HHA.out] at hh1
            refine hh1.mono ?_
            rintro e w' ⟨rfl, rfl⟩
            clear hh1
            go_wp2_with fail
            have hh2 := ref21_Hash b _ cb y1 wk (hb.below hx (Nat.le_refl _)) (by omega)
            rw [HHB.out] at hh2
            refine hh2.mono ?_
            rintro e w' ⟨rfl, rfl⟩
            clear hh2
            go_wp2_with (first
              | (at_builtin; refine wpList_append_one rfl _ _ _ (by rfl) w.heap.size 9 i1 _ 1 16 Try.underlying31 hi1 hJ0 hJ1 hJ2 rfl (by decide) pC (.slice A5 out.length c5) out (by rfl) (hown.alloc _) y1 ⟨wk.heap.size, 0, none⟩ 1 (by rfl) rfl ((Blk.new _ _ _).news rfl) (pC_one _) (by unfold maxLen; omega) (by omega) (Nat.le_trans hx.size (by simp)) ?_
                 intro Az cz wz hnz hxz hstz
                 have hbz := below_ext (hx.alloc hx.size (.cells #[.string y1] 9)) (Nat.le_refl _) hxz (fun b e => (hown.lt b e).1)
                 clear hxz hstz hown hx
                 obtain ⟨_, _, hA2, _, e1, _⟩ := (ha.below hbz (Nat.le_refl _)).it i hil
                 cases hA2
                 rw [hxa] at e1
                 dsimp only at e1
                 obtain ⟨_, _, hB2, _, f1, _⟩ := (hb.below hbz (Nat.le_refl _)).it k hkl
                 cases hB2
                 rw [hyb] at f1
                 dsimp only at f1))
            have hlz : (out ++ [y1]).length = out.length + 1 := by simp
            go_roundw
            case rel => exact ⟨i, k + 1, out ++ [y1], some ⟨Az, 0, none⟩, cz, by go_num, by go_num, by rw [hlz], by omega, by omega, by rw [hlz]; exact hnz, HRU2, by rw [hlz]; omega, hbz⟩
            case measure => simp [RowKit.intOf]; omega
        · obtain ⟨hru, hha, hhb⟩ := hstep.1 c1
          have HHA := Lib.hid hha
          have HHB := Lib.hid hhb
          have HRU2 := Lib.hid hru
          have hq : Op.bytesLess y1.toList x1.toList = false := ltB_asym c1
          have hne := ne_beq (ltB_ne c1).symm
          have hqq := ne_beq (emp_ne hz2)
          have hqn : (x2.toList != emp.toList) = true := by simp [bne, hqq]
          clear hstep c1 hha hhb HRU hru
          go_wp2_with fail
          refine (ref06_Below y1 x1 _ (by omega)).mono ?_
          rintro e w' ⟨rfl, nq, rfl⟩
          replace hx := below_drewN hx nq
          replace hown : Own (wr.drewN nq) w.heap.size 9 1 pC (.slice A5 out.length c5) out := hown
          replace e0 : (wr.drewN nq).cell? _ = _ := e0
          replace f0 : (wr.drewN nq).cell? _ = _ := f0
          generalize wr.drewN nq = wk at *
          go_wp2_with fail
          have hh1 := ref21_Hash a _ ca x1 wk (ha.below hx (Nat.le_refl _)) (by omega)
          rw [HHA.out] at hh1
          refine hh1.mono ?_
          rintro e w' ⟨rfl, rfl⟩
          clear hh1
          go_wp2_with fail
          have hh2 := ref21_Hash b _ cb x1 wk (hb.below hx (Nat.le_refl _)) (by omega)
          rw [HHB.out] at hh2
          refine hh2.mono ?_
          rintro e w' ⟨rfl, rfl⟩
          clear hh2
          go_wp2_with (first
            | (at_builtin; refine wpList_append_one rfl _ _ _ (by rfl) w.heap.size 9 i1 _ 1 16 Try.underlying31 hi1 hJ0 hJ1 hJ2 rfl (by decide) pC (.slice A5 out.length c5) out (by rfl) (hown.alloc _) x1 ⟨wk.heap.size, 0, none⟩ 1 (by rfl) rfl ((Blk.new _ _ _).news rfl) (pC_one _) (by unfold maxLen; omega) (by omega) (Nat.le_trans hx.size (by simp)) ?_
               intro Az cz wz hnz hxz hstz
               have hbz := below_ext (hx.alloc hx.size (.cells #[.string x1] 9)) (Nat.le_refl _) hxz (fun b e => (hown.lt b e).1)
               clear hxz hstz hown hx
               obtain ⟨_, _, hA2, _, e1, _⟩ := (ha.below hbz (Nat.le_refl _)).it i hil
               cases hA2
               rw [hxa] at e1
               dsimp only at e1
               obtain ⟨_, _, hB2, _, f1, _⟩ := (hb.below hbz (Nat.le_refl _)).it k hkl
               cases hB2
               rw [hyb] at f1
               dsimp only at f1))
          have hlz : (out ++ [x1]).length = out.length + 1 := by simp
          go_roundw
          case rel => exact ⟨i + 1, k, out ++ [x1], some ⟨Az, 0, none⟩, cz, by go_num, by go_num, by rw [hlz], by omega, by omega, by rw [hlz]; exact hnz, HRU2, by rw [hlz]; omega, hbz⟩
          case measure => simp [RowKit.intOf]; omega
      · have hm1 : ¬ (k : Int) < (b.length : Int) := by omega
        have hm2 : decide ((k : Int) < (b.length : Int)) = false := decide_eq_false hm1
        obtain ⟨hru, hha, hhb⟩ := HRU.out.one HTA.out (drop_at_ hil) (fun v hv => by rw [List.drop_eq_nil_of_le (by omega)] at hv; exact absurd hv (by simp))
        obtain ⟨⟨x1, x2⟩, hxa⟩ : ∃ x, a.getD i (emp, emp) = x := ⟨_, rfl⟩
        rw [hxa] at e0 hsz hru hha hhb
        dsimp only at e0 hsz hru hha hhb
        obtain ⟨hz1, hz2⟩ := hsz
        have HHA := Lib.hid hha
        have HHB := Lib.hid hhb
        have HRU2 := Lib.hid hru
        have hqq := ne_beq (emp_ne hz2)
        have hqn : (x2.toList != emp.toList) = true := by simp [bne, hqq]
        subst hA
        clear hha hhb HRU hru
        go_wp2_with fail
        have hh1 := ref21_Hash a _ ca x1 wr (ha.below hx (Nat.le_refl _)) (by omega)
        rw [HHA.out] at hh1
        refine hh1.mono ?_
        rintro e w' ⟨rfl, rfl⟩
        clear hh1
        go_wp2_with fail
        have hh2 := ref21_Hash b _ cb x1 wr (hb.below hx (Nat.le_refl _)) (by omega)
        rw [HHB.out] at hh2
        refine hh2.mono ?_
        rintro e w' ⟨rfl, rfl⟩
        clear hh2
        go_wp2_with (first
          | (at_builtin; refine wpList_append_one rfl _ _ _ (by rfl) w.heap.size 9 i1 _ 1 16 Try.underlying31 hi1 hJ0 hJ1 hJ2 rfl (by decide) pC (.slice A5 out.length c5) out (by rfl) (hown.alloc _) x1 ⟨wr.heap.size, 0, none⟩ 1 (by rfl) rfl ((Blk.new _ _ _).news rfl) (pC_one _) (by unfold maxLen; omega) (by omega) (Nat.le_trans hx.size (by simp)) ?_
             intro Az cz wz hnz hxz hstz
             have hbz := below_ext (hx.alloc hx.size (.cells #[.string x1] 9)) (Nat.le_refl _) hxz (fun b e => (hown.lt b e).1)
             clear hxz hstz hown hx
             obtain ⟨_, _, hA2, _, e1, _⟩ := (ha.below hbz (Nat.le_refl _)).it i hil
             cases hA2
             rw [hxa] at e1
             dsimp only at e1))
        have hlz : (out ++ [x1]).length = out.length + 1 := by simp
        go_roundw
        case rel => exact ⟨i + 1, k, out ++ [x1], some ⟨Az, 0, none⟩, cz, by go_num, by go_num, by rw [hlz], by omega, by omega, by rw [hlz]; exact hnz, HRU2, by rw [hlz]; omega, hbz⟩
        case measure => simp [RowKit.intOf]; omega
    · have hj1 : ¬ (i : Int) < (a.length : Int) := by omega
      have hj2 : decide ((i : Int) < (a.length : Int)) = false := decide_eq_false hj1
      by_cases hkl : k < b.length
      · have hm1 : (k : Int) < (b.length : Int) := by omega
        have hm2 : decide ((k : Int) < (b.length : Int)) = true := decide_eq_true hm1
        have htz := (HTB.out.sz _ (by rw [getD_at b k _ hkl]; exact List.getElem_mem hkl : b.getD k (emp, emp) ∈ b))
        obtain ⟨bb, ob, hB, _, f0, _⟩ := (hb.below hx (Nat.le_refl _)).it k hkl
        obtain ⟨hru, hhb, hha⟩ := HRU.out.two HTB.out (drop_at_ hkl) (fun v hv => by rw [List.drop_eq_nil_of_le (by omega)] at hv; exact absurd hv (by simp))
        obtain ⟨⟨y1, y2⟩, hyb⟩ : ∃ x, b.getD k (emp, emp) = x := ⟨_, rfl⟩
        rw [hyb] at f0 htz hru hha hhb
        dsimp only at f0 htz hru hha hhb
        obtain ⟨hz3, hz4⟩ := htz
        have HHA := Lib.hid hha
        have HHB := Lib.hid hhb
        have HRU2 := Lib.hid hru
        have hqq := ne_beq (emp_ne hz4).symm
        have hqn : (emp.toList != y2.toList) = true := by simp [bne, hqq]
        subst hB
        clear hha hhb HRU hru
        go_wp2_with fail
        have hh1 := ref21_Hash a _ ca y1 wr (ha.below hx (Nat.le_refl _)) (by omega)
        rw [HHA.out] at hh1
        refine hh1.mono ?_
        rintro e w' ⟨rfl, rfl⟩
        clear hh1
        go_wp2_with fail
        have hh2 := ref21_Hash b _ cb y1 wr (hb.below hx (Nat.le_refl _)) (by omega)
        rw [HHB.out] at hh2
        refine hh2.mono ?_
        rintro e w' ⟨rfl, rfl⟩
        clear hh2
        go_wp2_with (first
          | (at_builtin; refine wpList_append_one rfl _ _ _ (by rfl) w.heap.size 9 i1 _ 1 16 Try.underlying31 hi1 hJ0 hJ1 hJ2 rfl (by decide) pC (.slice A5 out.length c5) out (by rfl) (hown.alloc _) y1 ⟨wr.heap.size, 0, none⟩ 1 (by rfl) rfl ((Blk.new _ _ _).news rfl) (pC_one _) (by unfold maxLen; omega) (by omega) (Nat.le_trans hx.size (by simp)) ?_
             intro Az cz wz hnz hxz hstz
             have hbz := below_ext (hx.alloc hx.size (.cells #[.string y1] 9)) (Nat.le_refl _) hxz (fun b e => (hown.lt b e).1)
             clear hxz hstz hown hx
             obtain ⟨_, _, hB2, _, f1, _⟩ := (hb.below hbz (Nat.le_refl _)).it k hkl
             cases hB2
             rw [hyb] at f1
             dsimp only at f1))
        have hlz : (out ++ [y1]).length = out.length + 1 := by simp
        go_roundw
        case rel => exact ⟨i, k + 1, out ++ [y1], some ⟨Az, 0, none⟩, cz, by go_num, by go_num, by rw [hlz], by omega, by omega, by rw [hlz]; exact hnz, HRU2, by rw [hlz]; omega, hbz⟩
        case measure => simp [RowKit.intOf]; omega
      · have hm1 : ¬ (k : Int) < (b.length : Int) := by omega
        have hm2 : decide ((k : Int) < (b.length : Int)) = false := decide_eq_false hm1
        have hdn := HRU.out.done hil hkl
        subst hdn
        clear HRU
        go_wp2_with fail
        exact HR.out _ _ _ hown hx
/-- What tree.Unlike tells of any lists. -/
def unR (a b : List It) : List ByteArray := if checkT a = 0 ∧ checkT b = 0 then unlR a b else []
theorem unR_a {a b : List It} (h : checkT a ≠ 0) : unR a b = [] := if_neg fun e => h e.1
theorem unR_b {a b : List It} (h : checkT b ≠ 0) : unR a b = [] := if_neg fun e => h e.2
theorem unR_ok {a b : List It} (h : checkT a = 0) (k : checkT b = 0) : unR a b = unlR a b := if_pos ⟨h, k⟩
set_option maxHeartbeats 2000000 in
set_option maxRecDepth 100000 in
theorem tree_Unlike (a b : List It) (A B : Option Addr) (ca cb : Nat) (w : World) (ha : Row w A (flat itC a)) (hb : Row w B (flat itC b)) (hla : a.length ≤ ca) (hlb : b.length ≤ cb) (hsa : a.length ≤ 100000) (hsb : b.length ≤ 100000) {R : Ending → World → Prop}
    (hR : ∀ A' c' w', Own w' w.heap.size 9 1 pC (.slice A' (unR a b).length c') (unR a b) → Below w.heap.size w w' → R (.returned (.slice A' (unR a b).length c')) w') :
    Calls Try.prog 20 #[.slice A a.length ca, .slice B b.length cb] w R := by
  have HR := Lib.hid hR
  clear hR
  go_enter Try.func20, Try.ntmps20
  go_wp2_with fail
  refine tree_Check a A ca w ha (by omega) ?_
  intro w1 hx
  by_cases h1 : checkT a = 0
  rotate_left
  · have hr := HR.out
    rw [unR_a h1] at hr
    replace HR := Lib.hid hr
    have h1b : (checkT a != 0) = true := by simpa using h1
    clear hr h1
    generalize checkT a = z at *
    go_wp2_with fail
    exact HR.out none 0 _ (Own.nil _ _ _ _) hx
  rw [h1]
  go_wp2_with fail
  refine tree_Check b B cb w1 (hb.below hx (Nat.le_refl _)) (by omega) ?_
  intro w2 hx2
  replace hx := hx.trans (hx2.mono hx.size)
  clear hx2
  by_cases h2 : checkT b = 0
  rotate_left
  · have hr := HR.out
    rw [unR_b h2] at hr
    replace HR := Lib.hid hr
    have h1b : (checkT b != 0) = true := by simpa using h2
    clear hr h2 h1
    generalize checkT b = z at *
    go_wp2_with fail
    exact HR.out none 0 _ (Own.nil _ _ _ _) hx
  rw [h2]
  have hr := HR.out
  rw [unR_ok h1 h2] at hr
  replace HR := Lib.hid hr
  clear hr h1 h2
  go_wp2_with fail
  refine tree_unlike a b A B ca cb w2 (ha.below hx (Nat.le_refl _)) (hb.below hx (Nat.le_refl _)) hla hlb hsa hsb ?_
  intro A' c' w3 hown hx3
  replace hown := hown.mono hx.size
  replace hx := hx.trans (hx3.mono hx.size)
  clear hx3
  generalize unlR a b = U at *
  go_wp2_with fail
  exact HR.out _ _ _ hown hx
end
end Go.Proofs.Ytlkjonlipnmbnaa
/- spenceref21.Texts. -/
namespace Go.Proofs.Ytlkjonlipnmbnaa
open Go.RowKit Go.Lib
section
theorem Row.txt {w : World} {A : Option Addr} {l : List ByteArray} (h : Row w A (flat pC l)) (j : Nat) (hj : j < l.length) : ∃ b o, A = some ⟨b, o, none⟩ ∧ b < w.heap.size ∧ w.cell? ⟨b, o + j, none⟩ = some (.string (l.getD j emp)) := by
  obtain ⟨b, o, hA, hlt, hc⟩ := h.at_ pC_len (by decide) j hj
  have d0 := hc 0 _ rfl
  rw [← getD_at l j emp hj, Nat.mul_one, Nat.add_zero] at d0
  exact ⟨b, o, hA, hlt, d0⟩
theorem take_more {a b : List ByteArray} {j : Nat} (hn : b.length = a.length) (hj : j < a.length) (h : a.take j = b.take j) (he : a.getD j emp = b.getD j emp) : a.take (j + 1) = b.take (j + 1) := by
  rw [take_snoc a j emp hj, take_snoc b j emp (by omega), h, he]
set_option maxHeartbeats 2000000 in
set_option maxRecDepth 100000 in
theorem ref21_Texts (a b : List ByteArray) (A B : Option Addr) (ca cb : Nat) (w : World) (ha : Row w A (flat pC a)) (hb : Row w B (flat pC b)) (hl : a.length ≤ 1000000) {R : Ending → World → Prop}
    (hR : ∀ w', Below w.heap.size w w' → R (.returned (.bool (decide (a = b)))) w') :
    Calls Try.prog 21 #[.slice A a.length ca, .slice B b.length cb] w R := by
  have HR := Lib.hid hR
  clear hR
  by_cases hn : b.length = a.length
  rotate_left
  · have h1 : ((a.length : Int) != (b.length : Int)) = true := by simp; omega
    have h2 : (a.length != b.length) = true := by simp; omega
    have hr := HR.out
    rw [decide_eq_false (fun e : a = b => hn (by rw [e]))] at hr
    replace HR := Lib.hid hr
    clear hr hn
    go_enter Try.func21, Try.ntmps21
    go_wp2_with fail
    exact HR.out _ (Below.refl _ _)
  rw [hn]
  have HN := Lib.hid hn
  clear hn
  have h1 : ((a.length : Int) != (a.length : Int)) = false := by simp
  go_enter Try.func21, Try.ntmps21
  go_wp2_with fail
  go_loopw [5] (fun i wx => ∃ j : Nat, i = .int .i64 (j : Int) ∧ j ≤ a.length ∧ Hid (a.take j = b.take j) ∧ Below w.heap.size w wx) (fun i _ => a.length - (RowKit.intOf i).toNat)
  case atStart => exact ⟨0, rfl, Nat.zero_le _, Lib.hid rfl, Below.refl _ _⟩
  case round =>
    obtain ⟨j, rfl, hj, HT, hx⟩ := hrel
    have hj0 : (0 : Int) ≤ (j : Int) := Int.natCast_nonneg _
    by_cases hlt : j < a.length
    · have hj1 : (j : Int) < (a.length : Int) := by omega
      have hjd : decide ((j : Int) < (a.length : Int)) = true := decide_eq_true hj1
      obtain ⟨b1, o1, hA, _, d0⟩ := (ha.below hx (Nat.le_refl _)).txt j hlt
      obtain ⟨b2, o2, hB, _, e0⟩ := (hb.below hx (Nat.le_refl _)).txt j (by rw [HN.out]; exact hlt)
      have hmore := fun he => take_more HN.out hlt HT.out he
      have hnot : a.getD j emp ≠ b.getD j emp → decide (a = b) = false := fun hne => decide_eq_false (fun e => hne (by rw [e]))
      generalize a.getD j emp = x at *
      generalize b.getD j emp = y at *
      subst hA
      subst hB
      by_cases he : x = y
      · have HM := Lib.hid (hmore he)
        subst he
        have hq : (x.toList != x.toList) = false := by simp [bne]
        clear hmore hnot
        go_wp2_with fail
        go_quiet (fail)
        go_wp2_with fail
        replace hx := below_drewN hx nq
        go_roundw
        case rel => exact ⟨j + 1, by go_num, by omega, HM, hx⟩
        case measure => simp [RowKit.intOf]; omega
      · have hq := ne_beq he
        have hq2 : (x.toList != y.toList) = true := by simp [bne, hq]
        have hr := HR.out
        rw [hnot he] at hr
        replace HR := Lib.hid hr
        clear hmore hnot he hr
        go_wp2_with fail
        go_quiet (fail)
        go_wp2_with fail
        first | exact HR.out _ (below_drewN hx nq) | (go_ret; exact HR.out _ (below_drewN hx nq))
    · have hje : j = a.length := by omega
      have hj1 : ¬ (j : Int) < (a.length : Int) := by omega
      have hjd : decide ((j : Int) < (a.length : Int)) = false := decide_eq_false hj1
      have hab : a = b := by
        have := HT.out
        rwa [hje, List.take_length, ← HN.out, List.take_length] at this
      have hr := HR.out
      rw [decide_eq_true hab] at hr
      replace HR := Lib.hid hr
      clear hje hab hr
      go_wp2_with fail
      first | exact HR.out _ hx | (go_ret; exact HR.out _ hx)
end
end Go.Proofs.Ytlkjonlipnmbnaa
/- tree.hashes, spenceref21.slot. -/
namespace Go.Proofs.Ytlkjonlipnmbnaa
open Go.RowKit Go.Lib Go.Maps Go.ChangeMaps
section
def entH (x : Sl) : Lit × DataW Unit := (.int .u8 x.1, .lit (.string x.2.data.toList))
/-- A map of a page's hashes by their bytes. -/
def hashD (L : List Sl) : DataW Unit := .map (L.map entH)
def HshO (w : World) (b n : Nat) (L : List Sl) : Prop := w.ownsMap Try.prog 5 (plainElem Try.prog 9) b n (hashD L)
theorem HshO.below {w w' : World} {b n B : Nat} {L : List Sl} (h : HshO w b n L) (hb : Below B w w') (hB : b < B) : HshO w' b n L := by
  obtain ⟨es, clock, hh, F, hs, hD⟩ := h
  exact ⟨es, clock, (hb.block b hB).trans hh, F, hs, hD⟩
theorem HshO.lt {w : World} {b n : Nat} {L : List Sl} (h : HshO w b n L) : b < w.heap.size := World.ownsMap.lt h
theorem filt_far {k : Int} : ∀ {l : List Sl}, (∀ y ∈ l, y.1 < k) → (l.map entH).filter (fun p => !p.1.sameKey (.int .u8 k)) = l.map entH
  | [], _ => rfl
  | y :: l, h => by
    have ih := filt_far (k := k) (l := l) (fun z hz => h z (List.mem_cons_of_mem _ hz))
    have h1 : ¬ y.1 = k := by have := h y (by simp); omega
    rw [List.map_cons, List.filter_cons_of_pos (by simp [entH, Lit.sameKey, h1]), ih]
theorem ins_end {x : Sl} : ∀ {l : List Sl}, (∀ y ∈ l, y.1 < x.1) → DataW.insert (entH x) (l.map entH) = (l ++ [x]).map entH
  | [], _ => rfl
  | y :: l, h => by
    have ih := ins_end (x := x) (l := l) (fun z hz => h z (List.mem_cons_of_mem _ hz))
    have h1 : ¬ x.1 < y.1 := by have := h y (by simp); omega
    rw [List.map_cons, DataW.insert, if_neg (by simp [entH, Lit.before]; omega), ih]; rfl
theorem hashD_put {L : List Sl} {x : Sl} (h : ∀ y ∈ L, y.1 < x.1) : (hashD L).put (.int .u8 x.1) (.lit (.string x.2.data.toList)) = hashD (L ++ [x]) := by
  unfold hashD DataW.put
  dsimp only
  rw [filt_far h]
  exact congrArg DataW.map (ins_end h)
/-- The hash of a byte; empty: there is none. -/
def hashAt (L : List Sl) (t : Int) : ByteArray := ((L.find? (fun x => decide (x.1 = t))).map (·.2)).getD emp
def hashIn (L : List Sl) (t : Int) : Bool := L.any (fun x => decide (x.1 = t))
theorem hashD_has (L : List Sl) (t : Int) : Maps.has (hashD L) (.int .u8 t) = hashIn L t := by
  unfold hashD hashIn
  rw [Maps.has_eq, List.any_map]
  congr 1
  funext x
  simp [entH, Lit.sameKey]
theorem hashD_at (t : Int) : ∀ L : List Sl, (hashD L).atKey (.int .u8 t) (.lit (.string [])) = .lit (.string (hashAt L t).data.toList)
  | [] => rfl
  | y :: l => by
    have ih := hashD_at t l
    unfold hashD hashAt DataW.atKey at ih ⊢
    dsimp only at ih ⊢
    rw [List.map_cons]
    by_cases h : y.1 = t
    · have hs : (entH y).1.sameKey (.int .u8 t) = true := by simp [entH, Lit.sameKey, h]
      have e1 : List.find? (fun p => p.1.sameKey (.int .u8 t)) (entH y :: l.map entH) = some (entH y) := List.find?_cons_of_pos hs
      rw [e1, List.find?_cons_of_pos (by simpa using h)]; rfl
    · have hs : ¬ (entH y).1.sameKey (.int .u8 t) = true := by simp [entH, Lit.sameKey, h]
      have e1 : List.find? (fun p => p.1.sameKey (.int .u8 t)) (entH y :: l.map entH) = List.find? (fun p => p.1.sameKey (.int .u8 t)) (l.map entH) := List.find?_cons_of_neg hs
      rw [e1, List.find?_cons_of_neg (by simpa using h)]
      exact ih
theorem plainElem_str_inv {P : Program} {e : TypeId} (he : P.underlying e = some .string) {v : Value} {l : ByteArray} {ps : List MemPlace} (h : plainElem (H := Unit) P e v = some (.lit (.string l.data.toList), ps)) : v = .string l := by
  unfold plainElem at h
  rw [he] at h
  split at h
  · cases h
  · rename_i h2; cases h2
  · split at h
    · injection h with h; injection h with h _; injection h with h; injection h with h
      exact congrArg Value.string (ByteArray.ext (Array.toList_inj.1 h))
    · cases h
  · cases h
theorem u8_keyed : Keyed Try.prog 5 := int_keyed Try.underlying5
theorem zero_str (w : World) : (zeroValue 9).run Try.prog w = .ok (.string ⟨#[]⟩) w := by kernel_rfl
theorem key_u8 {k : Int} (h : 0 ≤ k ∧ k < 256) : keyOf Try.prog 5 (.int .u8 k) = some (.int .u8 k) := keyOf_int_mk Try.underlying5 (WalkArith.wf_u8 ⟨h.1, by omega⟩)
theorem wpList_lookup_hash {w : World} {ops : Array Oper} {rest : List Oper} {o : Oper} {a : Act} {Q : Exit → Act → World → Prop} (hg : o.guard = none) (m x : Operand) (hop : o.op = Op.lookup 64 m x true)
    (b n : Nat) (L : List Sl) (hm : a.eval m = .map (some b)) (h : HshO w b n L) (t : Int) (ht : 0 ≤ t ∧ t < 256) (hx : a.eval x = .int .u8 t)
    (hK : wpList Try.prog ops Q rest (a.put o.dst (.tuple #[.string (hashAt L t), .bool (hashIn L t)])) w) : wpList Try.prog ops Q (o :: rest) a w :=
  wpList_lookup_own_ok w hg m x _ hop 5 9 u8_keyed Try.underlying64 _ (zero_str w) (.lit (.string [])) [] (plainElem_string Try.underlying9 (s := ⟨#[]⟩) (Nat.zero_le _)) b n (hashD L) hm h (.int .u8 t) (.int .u8 t) hx (key_u8 ht)
    (fun v ps hv => by
      rw [hashD_at] at hv
      rw [plainElem_str_inv Try.underlying9 hv, hashD_has]
      exact hK)
/-- What a page's hashes are. -/
theorem hash_slots (p : ByteArray) (l : List It) {t : Nat} (ht : t < 256) : hashAt (slotsT p l 256) (t : Int) = slotH p l t ∧ hashIn (slotsT p l 256) (t : Int) = !(kid p l t).isEmpty := by
  unfold hashAt hashIn slotH
  by_cases hk : kid p l t = []
  · have hno : ∀ x ∈ slotsT p l 256, ¬ x.1 = (t : Int) := fun x hx e => by
      obtain ⟨u, hu, hne, rfl⟩ := slot_mem hx
      have : u = t := by have e' : ((u : Nat) : Int) = (t : Int) := e; omega
      subst this
      exact hne hk
    rw [List.find?_eq_none.2 (fun x hx => by simpa using hno x hx), hk, List.any_eq_false.2 (fun x hx => by simpa using hno x hx)]
    exact ⟨rfl, rfl⟩
  · have hke : (kid p l t).isEmpty = false := by
      cases h : (kid p l t).isEmpty
      · rfl
      · exact absurd (List.isEmpty_iff.1 h) hk
    have hm : ((t : Int), (pmkR (pgR (nextP p t) (kid p l t)).1).1) ∈ slotsT p l 256 := List.mem_filterMap.2 ⟨t, List.mem_range.2 ht, by unfold slotT; rw [hke, if_neg (by decide)]⟩
    refine ⟨?_, by rw [hke]; exact List.any_eq_true.2 ⟨_, hm, by simp⟩⟩
    rw [hke, if_neg (by decide)]
    cases hf : (slotsT p l 256).find? (fun x => decide (x.1 = (t : Int))) with
    | none => exact absurd (List.find?_eq_none.1 hf _ hm) (by simp)
    | some y =>
      have hy := List.mem_of_find?_eq_some hf
      have hy2 := List.find?_some hf
      obtain ⟨u, hu, hne, rfl⟩ := slot_mem hy
      have : u = t := by have e' : ((u : Nat) : Int) = (t : Int) := of_decide_eq_true hy2; omega
      subst this
      rfl
theorem up_take {l : List Sl} (h : l.Pairwise (fun x y => x.1 < y.1)) {j : Nat} (hj : j < l.length) : ∀ y ∈ l.take j, y.1 < (l.getD j (0, emp)).1 := fun y hy => by
  obtain ⟨u, hu, rfl⟩ := List.getElem_of_mem hy
  rw [List.length_take] at hu
  rw [List.getElem_take, getD_at l j _ hj]
  exact List.pairwise_iff_getElem.1 h u j (by omega) hj (by omega)
set_option maxHeartbeats 4000000 in
set_option maxRecDepth 100000 in
theorem tree_hashes (g : PgV) (A1 A2 : Option Addr) (c1 c2 : Nat) (w : World) (h : Row w A1 (flat slC g.sl)) (hl : g.sl.length ≤ 256) (hsb : ∀ j, j < g.sl.length → 0 ≤ (g.sl.getD j (0, emp)).1 ∧ (g.sl.getD j (0, emp)).1 < 256)
    (hup : g.sl.Pairwise (fun x y => x.1 < y.1)) (hsz : ∀ x ∈ g.sl, x.2.size ≤ 100) {R : Ending → World → Prop}
    (hR : ∀ b n w', HshO w' b n g.sl → w.heap.size ≤ b → Below w.heap.size w w' → R (.returned (.map (some b))) w') :
    Calls Try.prog 33 #[.agg #[.string g.pre, .bool g.leaf, .slice A1 g.sl.length c1, .slice A2 g.it.length c2]] w R := by
  have HR := Lib.hid hR
  have HSB := Lib.hid hsb
  have HUP := Lib.hid hup
  have HSZ := Lib.hid hsz
  clear hR hsb hup hsz
  have hmm := @run_makeMap Try.prog
  have hl0 : (0 : Int) ≤ (g.sl.length : Int) := Int.natCast_nonneg _
  go_enter Try.func33, Try.ntmps33
  go_upto_region 1 with fail
  have hbk := Blk.new w 27 #[.string g.pre, .bool g.leaf, .slice A1 g.sl.length c1, .slice A2 g.it.length c2]
  have hx := (Below.refl w.heap.size w).alloc (Nat.le_refl _) (.cells #[.string g.pre, .bool g.leaf, .slice A1 g.sl.length c1, .slice A2 g.it.length c2] 27)
  generalize w.alloc (.cells #[.string g.pre, .bool g.leaf, .slice A1 g.sl.length c1, .slice A2 g.it.length c2] 27) = w1 at *
  obtain ⟨g4, hg4⟩ : ∃ g, w.heap.size = g := ⟨_, rfl⟩
  rw [hg4] at hbk ⊢
  have HG4 := Lib.hid hg4
  clear hg4
  go_upto_region 2 with fail
  have hm0 : HshO (w1.alloc (.map #[] 0)) w1.heap.size 0 [] := World.ownsMap_made _ _ _ _
  have hx2 := hx.alloc hx.size (.map #[] 0)
  replace hbk := hbk.alloc (.map #[] 0)
  have hle := hx.size
  generalize w1.alloc (.map #[] 0) = w2 at *
  obtain ⟨b, hbe⟩ : ∃ b, w1.heap.size = b := ⟨_, rfl⟩
  rw [hbe] at hm0 hle ⊢
  clear hbe hx hmm
  have HLE := Lib.hid hle
  clear hle
  have q0 := hbk.cell 0
  have q1 := hbk.cell 1
  have q2 := hbk.cell 2
  have q3 := hbk.cell 3
  dsimp at q0 q1 q2 q3
  clear hbk
  go_wp2_with fail
  clear q0 q1 q2 q3
  go_loopw [10] (fun i wx => ∃ j : Nat, i = .int .i64 (j : Int) ∧ j ≤ g.sl.length ∧ HshO wx b j (g.sl.take j) ∧ Below w.heap.size w wx) (fun i _ => g.sl.length - (RowKit.intOf i).toNat)
  case atStart => exact ⟨0, rfl, Nat.zero_le _, hm0, hx2⟩
  case round =>
    clear hm0 hx2
    obtain ⟨j, rfl, hj, hm, hx⟩ := hrel
    have hj0 : (0 : Int) ≤ (j : Int) := Int.natCast_nonneg _
    by_cases hlt : j < g.sl.length
    · have hj1 : (j : Int) < (g.sl.length : Int) := by omega
      have hjd : decide ((j : Int) < (g.sl.length : Int)) = true := decide_eq_true hj1
      obtain ⟨bb, o, hA, _, d0, d1⟩ := (h.below hx (Nat.le_refl _)).sl j hlt
      have hxb := HSB.out j hlt
      have hxs := HSZ.out _ (by rw [getD_at g.sl j _ hlt]; exact List.getElem_mem hlt : g.sl.getD j (0, emp) ∈ g.sl)
      have hput := hashD_put (up_take HUP.out hlt)
      have hsn := take_snoc g.sl j (0, emp) hlt
      obtain ⟨⟨x1, x2⟩, hxx⟩ : ∃ x, g.sl.getD j (0, emp) = x := ⟨_, rfl⟩
      rw [hxx] at d0 d1 hxb hxs hput hsn
      dsimp only at d0 d1 hxb hxs hput hsn
      rw [← hsn] at hput
      have HPUT := Lib.hid hput
      have hkey := key_u8 hxb
      have hval := plainElem_string (H := Unit) (P := Try.prog) Try.underlying9 (s := x2) (by unfold maxLen; omega)
      have hnm : j < maxLen := by unfold maxLen; omega
      clear hxx hput hsn
      subst hA
      go_upto_region 5 with fail
      have hbx := Blk.new wr 33 #[.int .u8 x1, .string x2]
      have hx' := hx.alloc hx.size (.cells #[.int .u8 x1, .string x2] 33)
      have hma : HshO (wr.alloc (.cells #[.int .u8 x1, .string x2] 33)) b j (g.sl.take j) := World.ownsMap.alloc hm _
      generalize wr.alloc (.cells #[.int .u8 x1, .string x2] 33) = wb at *
      generalize wr.heap.size = bx at *
      clear d0 d1 hx hm
      have q0 := hbx.cell 0
      have q1 := hbx.cell 1
      dsimp at q0 q1
      go_wp2_with (first
        | (at_mapUpdate; refine wpList_mapUpdate_own _ rfl _ _ _ 64 rfl 5 9 u8_keyed Try.underlying64 _ b j _ rfl hma hnm _ _ _ rfl rfl hkey _ [] hval ?_; intro w5 hown5 hgrow5))
      rw [HPUT.out] at hown5
      have hbf := hx'.grown hgrow5 hx'.size (fun k e => by injection e with e; subst e; exact HLE.out)
      go_roundw
      case rel => exact ⟨j + 1, by go_num, by omega, hown5, hbf⟩
      case measure => simp [RowKit.intOf]; omega
    · have hje : j = g.sl.length := by omega
      have hj1 : ¬ (j : Int) < (g.sl.length : Int) := by omega
      have hjd : decide ((j : Int) < (g.sl.length : Int)) = false := decide_eq_false hj1
      rw [hje, List.take_length] at hm
      clear hje
      go_wp2_with fail
      exact HR.out _ _ _ hm HLE.out hx
set_option maxHeartbeats 4000000 in
set_option maxRecDepth 100000 in
theorem ref21_slot (g : PgV) (A1 A2 : Option Addr) (c1 c2 : Nat) (t : Int) (w : World) (h : Row w A1 (flat slC g.sl)) (hl : g.sl.length ≤ 256) {R : Ending → World → Prop}
    (hR : ∀ w', Below w.heap.size w w' → R (.returned (.string (hashAt g.sl t))) w') :
    Calls Try.prog 36 #[.agg #[.string g.pre, .bool g.leaf, .slice A1 g.sl.length c1, .slice A2 g.it.length c2], .int .u8 t] w R := by
  obtain ⟨H, hH⟩ : ∃ H, hashAt g.sl t = H := ⟨_, rfl⟩
  rw [hH] at hR
  have HH := Lib.hid hH
  have HR := Lib.hid hR
  clear hR hH
  have hl0 : (0 : Int) ≤ (g.sl.length : Int) := Int.natCast_nonneg _
  go_enter Try.func36, Try.ntmps36
  go_upto_region 1 with fail
  have hbk := Blk.new w 27 #[.string g.pre, .bool g.leaf, .slice A1 g.sl.length c1, .slice A2 g.it.length c2]
  have hx := (Below.refl w.heap.size w).alloc (Nat.le_refl _) (.cells #[.string g.pre, .bool g.leaf, .slice A1 g.sl.length c1, .slice A2 g.it.length c2] 27)
  generalize w.alloc (.cells #[.string g.pre, .bool g.leaf, .slice A1 g.sl.length c1, .slice A2 g.it.length c2] 27) = w1 at *
  replace h := h.below hx (Nat.le_refl _)
  obtain ⟨g4, hg4⟩ : ∃ g, w.heap.size = g := ⟨_, rfl⟩
  rw [hg4] at hbk ⊢
  clear hg4
  have q0 := hbk.cell 0
  have q1 := hbk.cell 1
  have q2 := hbk.cell 2
  have q3 := hbk.cell 3
  dsimp at q0 q1 q2 q3
  clear hbk
  go_wp2_with fail
  go_loopw [5] (fun i wx => ∃ j : Nat, i = .int .i64 (j : Int) ∧ j ≤ g.sl.length ∧ Hid (∀ x ∈ g.sl.take j, ¬ x.1 = t) ∧ wx = w1) (fun i _ => g.sl.length - (RowKit.intOf i).toNat)
  case atStart => exact ⟨0, rfl, Nat.zero_le _, Lib.hid (fun x h => absurd h (by simp)), rfl⟩
  case round =>
    obtain ⟨j, rfl, hj, HB, rfl⟩ := hrel
    have hj0 : (0 : Int) ≤ (j : Int) := Int.natCast_nonneg _
    by_cases hlt : j < g.sl.length
    · have hj1 : (j : Int) < (g.sl.length : Int) := by omega
      have hjd : decide ((j : Int) < (g.sl.length : Int)) = true := decide_eq_true hj1
      obtain ⟨bb, o, hA, _, d0, d1⟩ := h.sl j hlt
      have hsn := take_snoc g.sl j (0, emp) hlt
      have hdr : g.sl = g.sl.take j ++ g.sl.getD j (0, emp) :: g.sl.drop (j + 1) := by
        conv => lhs; rw [← List.take_append_drop (j + 1) g.sl, hsn]
        simp
      obtain ⟨⟨x1, x2⟩, hxx⟩ : ∃ x, g.sl.getD j (0, emp) = x := ⟨_, rfl⟩
      rw [hxx] at d0 d1 hsn hdr
      dsimp only at d0 d1
      by_cases hk : x1 = t
      · have hv : H = x2 := by
          rw [← HH.out]
          unfold hashAt
          rw [hdr, List.find?_append, List.find?_eq_none.2 (fun x hx => by simpa using HB.out x hx)]
          simp [hk]
        subst hk
        clear hsn hdr hxx
        subst hv
        subst hA
        have hq : (x1 == x1) = true := by simp
        go_wp2_with fail
        first | exact HR.out _ hx | (go_ret; exact HR.out _ hx)
      · have hq : (x1 == t) = false := by simpa using hk
        have hnx : Hid (∀ x ∈ g.sl.take (j + 1), ¬ x.1 = t) := Lib.hid (fun x hx => by
          rw [hsn, List.mem_append, List.mem_singleton] at hx
          rcases hx with hx | rfl
          · exact HB.out x hx
          · exact hk)
        clear hsn hdr hxx HB
        subst hA
        go_wp2_with fail
        go_roundw
        case rel => exact ⟨j + 1, by go_num, by omega, hnx, trivial⟩
        case measure => simp [RowKit.intOf]; omega
    · have hj1 : ¬ (j : Int) < (g.sl.length : Int) := by omega
      have hjd : decide ((j : Int) < (g.sl.length : Int)) = false := decide_eq_false hj1
      have hv : H = emp := by
        have hb := HB.out
        rw [List.take_of_length_le (by omega)] at hb
        rw [← HH.out]
        unfold hashAt
        rw [List.find?_eq_none.2 (fun x hx => by simpa using hb x hx)]
        rfl
      subst hv
      go_wp2_with fail
      first | exact HR.out _ hx | (go_ret; exact HR.out _ hx)
end
end Go.Proofs.Ytlkjonlipnmbnaa
/- tree.Diff's closure 'look'. -/
namespace Go.Proofs.Ytlkjonlipnmbnaa
open Go.RowKit Go.Lib
section
/-- 'append' of a whole list, nil let in, at the operation itself. -/
theorem wp_append_list {P : Program} {α : Type} {w : World} {o : Oper} {a : Act} {K : Act → World → Prop} {Q : Exit → Act → World → Prop} (s x : Operand) (t : TypeId)
    (ho : o.op = .call { callee := .builtin .append, args := #[s, x], argTypes := #[t, t] })
    (base : Nat) (e : TypeId) (i : TypeInfo) (z : Value) (k bytes : Nat) (ht : P.underlying t = some (.slice e)) (hi : P.info? e = some i) (hz : i.zero = some z)
    (hsize : i.size = k) (hby : i.bytes = bytes) (hzs : z.cells.size = k) (hk : 0 < k) (f : α → List Value) (hf : ∀ x, (f x).length = k) (hf1 : ∀ x, ∀ u ∈ f x, u.oneCell' = true)
    (v : Value) (l l2 : List α) (hs : a.eval s = v) (hown : Own w base e k f v l)
    (A : Option Addr) (c : Nat) (hx : a.eval x = .slice A l2.length c) (hr : Row w A (flat f l2))
    (h63 : l.length + l2.length ≤ maxLen) (hbytes : ((l.length + l2.length) + (l.length + l2.length) / 4 + 192) * bytes ≤ 281474976710656) (hbase : base ≤ w.heap.size)
    (h : ∀ A' c' w', Own w' base e k f (.slice A' (l ++ l2).length c') (l ++ l2) → Ext (fun b => v.ownBlock = some b) w w' → K (a.put o.dst (.slice A' (l ++ l2).length c')) w') :
    o.wp P a w K Q := by
  by_cases hA : A = none
  · subst hA
    have hn : flat f l2 = [] := by
      rcases hr with h | ⟨_, _, h, _⟩
      · exact h
      · cases h
    have hm : l2 = [] := by
      cases l2 with
      | nil => rfl
      | cons y l2 =>
        have := congrArg List.length hn
        rw [flat_length hf] at this
        have := Nat.mul_pos (show 0 < (y :: l2).length by simp) hk
        simp_all
    subst hm
    have hrun : (Builtin.append_ #[t, t] o.type #[v, .slice none 0 c]).run P w = .ok v w := by
      rcases hown.2 with ⟨rfl, h0⟩ | ⟨g, cap, cur, rfl, _, _, hnc, _⟩
      · simp [Builtin.append_, run_underlying ht, sizeOf, typeInfo, hi, Builtin.lenOf, Builtin.firstCells]
      · simp [Builtin.append_, run_underlying ht, sizeOf, typeInfo, hi, Builtin.lenOf, Builtin.firstCells, hnc, storeCells]
    unfold Oper.wp execOp
    simp only [ho, resolve, invoke, builtin, Sem.run_bind, Sem.run_pure, Result.andThen_ok, List.map_toArray, List.map_cons, List.map_nil, hs, hx, List.length_nil, hrun]
    obtain ⟨A', c', rfl⟩ := own_slice hown
    have := h A' c' w (by rw [List.append_nil]; exact hown) (Ext.refl _ _)
    rw [List.append_nil] at this
    exact this
  · obtain ⟨ad, rfl⟩ := Option.ne_none_iff_exists'.1 hA
    have hnews : ∀ j u, (flat f l2)[j]? = some u → w.cell? (ad.add j) = some u := by
      rcases hr with h0 | ⟨b, off, hA', hb, hc⟩
      · intro j u hu; rw [h0] at hu; simp at hu
      · injection hA' with hA'
        subst hA'
        intro j u hu
        rw [show ((⟨b, off, none⟩ : Addr).add j) = ⟨b, off + j, none⟩ from by unfold Addr.add; split <;> simp_all]
        exact hc j u hu
    refine wp_append_own_wide _ s x t ho base e i z k bytes ht hi hz hsize hby hzs hk v l.length (flat f l) hs hown ad l2.length c (flat f l2) hx (flat_length hf l2) hnews (fun u hu => ?_) h63 hbytes hbase ?_
    · obtain ⟨y, _, hy⟩ := List.mem_flatMap.1 hu
      exact hf1 y u hy
    · intro v' w' hown' hg _
      obtain ⟨A', c', rfl⟩ := own_slice hown'
      rw [← List.length_append] at hown' ⊢
      exact h A' c' w' (by unfold Own; rw [flat_append]; exact hown') (Ext.of_grown hg)
abbrev lookT : TypeId := 63
def lookV (gl gk gf : Nat) : Value := .func (.func 31) #[] #[.pointer (some ⟨gl, 0, none⟩), .pointer (some ⟨gk, 0, none⟩), .pointer (some ⟨gf, 0, none⟩)]
/-- What the closure has hold of. -/
structure LkO (w0 w : World) (gl gk gf : Nat) (A : Option Addr) (c n : Nat) (out : List ByteArray) : Prop where
  below : Below w0.heap.size w0 w
  bl : Blk w gl 3 #[.int .i64 (n : Int)]
  bk : Blk w gk 31 #[.slice A out.length c]
  bf : Blk w gf lookT #[lookV gl gk gf]
  own : Own w w0.heap.size 9 1 pC (.slice A out.length c) out
  gl0 : w0.heap.size ≤ gl
  gk0 : w0.heap.size ≤ gk
/-- Blocks that the closure may turn. -/
def LkS (w : World) (b : Nat) : Prop := ∃ t cs, Blk w b t cs ∧ (t = 3 ∨ t = 31 ∨ t = 9)
def LkX (w w' : World) : Prop := Ext (LkS w) w w'
theorem LkX.refl (w : World) : LkX w w := Ext.refl _ _
theorem LkX.trans {w w1 w2 : World} (h : LkX w w1) (k : LkX w1 w2) : LkX w w2 := Ext.trans h k (fun b hb hs => by
  refine Classical.byContradiction fun hn => hn ?_
  obtain ⟨t, cs, hk, ht⟩ := hs
  exact ⟨t, cs, (h.block b hb hn).symm.trans hk, ht⟩)
theorem LkX.of_below {w w' : World} (h : Below w.heap.size w w') : LkX w w' := (Ext.of_below h).mono fun b hb hs => absurd hb (by omega)
theorem LkX.fresh {w w1 w2 : World} (h : LkX w w1) (k : Below w1.heap.size w1 w2) : LkX w w2 := h.trans (.of_below k)
theorem LkX.of_ext {w w' : World} {S : Nat → Prop} (h : Ext S w w') (hs : ∀ b, b < w.heap.size → S b → LkS w b) : LkX w w' := h.mono hs
theorem HshO.lkx {w w' : World} {b n : Nat} {L : List Sl} (h : HshO w b n L) (hx : LkX w w') : HshO w' b n L := by
  have hb := h.lt
  obtain ⟨es, clock, hh, F, hs, hD⟩ := h
  refine ⟨es, clock, (hx.block b hb fun ⟨t, cs, hk, _⟩ => ?_).trans hh, F, hs, hD⟩
  unfold Blk at hk
  rw [hh] at hk
  cases hk
theorem Own.blkS {α : Type} {f : α → List Value} {k : Nat} {w : World} {B : Nat} {e : TypeId} {v : Value} {l : List α} (h : Own w B e k f v l) {b : Nat} (hb : v.ownBlock = some b) : ∃ cs, Blk w b e cs := by
  rcases h.2 with ⟨rfl, _⟩ | ⟨g', cap, cur, rfl, _, hh, _⟩
  · cases hb
  · have : g' = b := by simpa [Value.ownBlock] using hb
    subst this
    exact ⟨cur, hh⟩
section
variable {w0 w w' : World} {gl gk gf c n : Nat} {A : Option Addr} {out : List ByteArray}
theorem LkO.fresh (h : LkO w0 w gl gk gf A c n out) (hb : Below w.heap.size w w') : LkO w0 w' gl gk gf A c n out :=
  ⟨h.below.trans (hb.mono h.below.size), h.bl.below hb h.bl.lt, h.bk.below hb h.bk.lt, h.bf.below hb h.bf.lt, h.own.below hb, h.gl0, h.gk0⟩
theorem LkO.drewN (h : LkO w0 w gl gk gf A c n out) (m : Nat) : LkO w0 (w.drewN m) gl gk gf A c n out :=
  ⟨below_drewN h.below m, h.bl, h.bk, h.bf, h.own, h.gl0, h.gk0⟩
theorem LkO.count (h : LkO w0 w gl gk gf A c n out) : LkO w0 (w.setCell ⟨gl, 0, none⟩ (.int .i64 ((n : Int) + 1))) gl gk gf A c (n + 1) out := by
  have hx := Ext.self w gl 0 (.int .i64 ((n : Int) + 1))
  exact ⟨below_self h.below (Nat.le_refl _) hx h.gl0, h.bl.set 0 _, h.bk.far (h.bk.ne h.bl (by decide)) _, h.bf.far (h.bf.ne h.bl (by decide)) _,
    h.own.ext hx (fun g e e2 => h.own.ne h.bl (by decide) (by rw [e, e2])), h.gl0, h.gk0⟩
theorem LkO.countX (h : LkO w0 w gl gk gf A c n out) : LkX w (w.setCell ⟨gl, 0, none⟩ (.int .i64 ((n : Int) + 1))) :=
  .of_ext (Ext.self w gl 0 _) (fun b _ e => by subst e; exact ⟨_, _, h.bl, .inl rfl⟩)
theorem LkO.app (h : LkO w0 w gl gk gf A c n out) (hx : Ext (fun b => (Value.slice A out.length c).ownBlock = some b) w w') :
    w'.cell? ⟨gk, 0, none⟩ = some (.slice A out.length c) ∧ w'.frozen? ⟨gk, 0, none⟩ = false := by
  have := h.bk.ext hx (h.own.ne h.bk (by decide))
  exact ⟨(this.cell 0).trans rfl, this.frozen 0⟩
theorem LkO.keys (h : LkO w0 w gl gk gf A c n out) {A' : Option Addr} {c' : Nat} {out' : List ByteArray} (hown : Own w' w0.heap.size 9 1 pC (.slice A' out'.length c') out') (hx : Ext (fun b => (Value.slice A out.length c).ownBlock = some b) w w') :
    LkO w0 (w'.setCell ⟨gk, 0, none⟩ (.slice A' out'.length c')) gl gk gf A' c' n out' ∧ LkX w (w'.setCell ⟨gk, 0, none⟩ (.slice A' out'.length c')) := by
  have h1 := h.bl.ext hx (h.own.ne h.bl (by decide))
  have h2 := h.bk.ext hx (h.own.ne h.bk (by decide))
  have h3 := h.bf.ext hx (h.own.ne h.bf (by decide))
  have hs := Ext.self w' gk 0 (.slice A' out'.length c')
  have hb := below_ext h.below (Nat.le_refl _) hx (fun b e => (h.own.lt b e).1)
  refine ⟨⟨below_self hb (Nat.le_refl _) hs h.gk0, h1.far (h1.ne h2 (by decide)) _, h2.set 0 _, h3.far (h3.ne h2 (by decide)) _, hown.ext hs (fun g e e2 => hown.ne h2 (by decide) (by rw [e, e2])), h.gl0, h.gk0⟩, ?_⟩
  refine (LkX.of_ext hx (fun b _ e => ?_)).trans (.of_ext hs (fun b _ e => ?_))
  · obtain ⟨cs, hk⟩ := h.own.blkS e
    exact ⟨_, _, hk, .inr (.inr rfl)⟩
  · subst e
    exact ⟨_, _, h2, .inr (.inl rfl)⟩
end
/-- What the loop has told behind n bytes. -/
def loopK (k : Nat) (p : ByteArray) (a b : List It) (n : Nat) : List ByteArray := (List.range n).flatMap (fun t => (cmpT k p a b t).1)
def loopS (k : Nat) (p : ByteArray) (a b : List It) (n : Nat) : Nat := ((List.range n).map (fun t => (cmpT k p a b t).2.1)).sum
theorem loopK_succ (k : Nat) (p : ByteArray) (a b : List It) (n : Nat) : loopK k p a b (n + 1) = loopK k p a b n ++ (cmpT k p a b n).1 := by
  unfold loopK; rw [List.range_succ, List.flatMap_append, List.flatMap_singleton]
theorem loopS_succ (k : Nat) (p : ByteArray) (a b : List It) (n : Nat) : loopS k p a b (n + 1) = loopS k p a b n + (cmpT k p a b n).2.1 := by
  unfold loopS; rw [List.range_succ, List.map_append, List.sum_append]; simp
theorem unl_len : ∀ (n : Nat) (a b : List It), a.length + b.length ≤ n → (unlR a b).length ≤ a.length + b.length := by
  intro n
  induction n with
  | zero =>
    intro a b hn
    rw [List.eq_nil_of_length_eq_zero (l := a) (by omega), List.eq_nil_of_length_eq_zero (l := b) (by omega), unl_nil]; simp
  | succ n ih =>
    intro a b hn
    cases a with
    | nil => rw [unl_nil]; simp
    | cons x a =>
      cases b with
      | nil => rw [unl_none]; simp
      | cons y b =>
        simp only [List.length_cons] at hn ⊢
        cases e1 : ltB x.1 y.1
        · cases e2 : ltB y.1 x.1
          · have he : x.1 = y.1 := Classical.byContradiction fun hne => by have := ltB_tri e1 hne; rw [e2] at this; cases this
            have := ih a b (by omega)
            rw [unl_eq _ _ he]
            split
            · omega
            · simp only [List.length_cons]; omega
          · have := ih (x :: a) b (by simp only [List.length_cons]; omega)
            rw [unl_gt _ _ e2]
            simp only [List.length_cons] at this ⊢; omega
        · have := ih a (y :: b) (by simp only [List.length_cons]; omega)
          rw [unl_lt _ _ e1]
          simp only [List.length_cons] at this ⊢; omega
theorem flat_pre {f : Nat → List It} {i n : Nat} (h : i < n) : ((List.range i).flatMap f).length + (f i).length ≤ ((List.range n).flatMap f).length := by
  induction n with
  | zero => omega
  | succ n ih =>
    rw [List.range_succ, List.flatMap_append, List.flatMap_singleton, List.length_append]
    by_cases e : i = n
    · rw [e]; exact Nat.le_refl _
    · have := ih (by omega)
      omega
theorem loop_len {k : Nat} {p : ByteArray} {a b : List It} (hk : 32 - p.size = k + 1) (ha : TOk a) (hb : TOk b) (ba : Beg p a) (bb : Beg p b) {i : Nat} (hi : i < 256) :
    (loopK k p a b i).length + (kid p a i).length + (kid p b i).length ≤ a.length + b.length ∧ loopS k p a b i + k * ((kid p a i).length + (kid p b i).length) ≤ k * (a.length + b.length) := by
  have h1 := flat_pre (f := kid p a) hi
  have h2 := flat_pre (f := kid p b) hi
  rw [kids_all (by omega) ha ba] at h1
  rw [kids_all (by omega) hb bb] at h2
  have h3 : ∀ m, (loopK k p a b m).length ≤ ((List.range m).flatMap (kid p a)).length + ((List.range m).flatMap (kid p b)).length := by
    intro m
    induction m with
    | zero => simp [loopK]
    | succ m ih =>
      rw [loopK_succ, List.range_succ, List.flatMap_append, List.flatMap_append, List.flatMap_singleton, List.flatMap_singleton, List.length_append, List.length_append, List.length_append]
      have : (cmpT k p a b m).1.length ≤ (kid p a m).length + (kid p b m).length := by
        unfold cmpT
        split
        · simp
        · have hs := (cmp_sub k (p := nextP p m) (a := kid p a m) (b := kid p b m) (by rw [nextP_size]; omega) (kid_ok ha m) (kid_ok hb m) (kid_beg p a m) (kid_beg p b m)).1.length_le
          exact Nat.le_trans hs (unl_len _ _ _ (Nat.le_refl _))
      omega
  have h4 := sum_two (g := fun t => (cmpT k p a b t).2.1) (A := fun t => kid p a t) (B := fun t => kid p b t) (c := k) (List.range i) (fun t ht => by
    unfold cmpT
    split
    · exact Nat.zero_le _
    · rename_i hne
      refine cmp_looks k (by rw [nextP_size]; omega) (kid_ok ha t) (kid_ok hb t) (kid_beg p a t) (kid_beg p b t) ?_
      refine Nat.one_le_iff_ne_zero.2 fun e => hne ?_
      unfold slotH
      rw [List.eq_nil_of_length_eq_zero (l := kid p a t) (by omega), List.eq_nil_of_length_eq_zero (l := kid p b t) (by omega)])
  refine ⟨by have := h3 i; omega, ?_⟩
  have h5 : ((List.range i).flatMap (kid p a)).length + ((List.range i).flatMap (kid p b)).length + ((kid p a i).length + (kid p b i).length) ≤ a.length + b.length := by omega
  calc loopS k p a b i + k * ((kid p a i).length + (kid p b i).length) ≤ k * (((List.range i).flatMap (kid p a)).length + ((List.range i).flatMap (kid p b)).length) + k * ((kid p a i).length + (kid p b i).length) := Nat.add_le_add_right h4 _
    _ = k * (((List.range i).flatMap (kid p a)).length + ((List.range i).flatMap (kid p b)).length + ((kid p a i).length + (kid p b i).length)) := by rw [← Nat.mul_add]
    _ ≤ k * (a.length + b.length) := Nat.mul_le_mul_left _ h5
theorem node_sl {p : ByteArray} {l : List It} (ho : (pgR p l).2 = true) (hl : (pgR p l).1.leaf = false) : (pgR p l).1.sl = slotsT p l 256 := by
  have hp := pg_size ho
  by_cases h8 : l.length ≤ 8
  · rw [pgR_leaf hp h8] at hl; cases hl
  · rw [pgR_node hp (by omega)] at ho ⊢
    split at ho
    · next h => rw [if_pos h]
    · cases ho
theorem slotH_size {p : ByteArray} {l : List It} (h : TOk l) {t : Nat} (hk : (pgR (nextP p t) (kid p l t)).2 = true) : if (kid p l t).isEmpty = true then slotH p l t = emp else (slotH p l t).size = 32 := by
  unfold slotH
  split
  · rfl
  · exact (mark_ok (pg_right _ rfl (kid_ok h t) (kid_beg p l t) hk)).2
theorem slots_size {p : ByteArray} {l : List It} (h : TOk l) (hk : ∀ t, t < 256 → (pgR (nextP p t) (kid p l t)).2 = true) : ∀ x ∈ slotsT p l 256, x.2.size ≤ 100 := fun x hx => by
  obtain ⟨t, ht, _, rfl⟩ := slot_mem hx
  have := (mark_ok (pg_right _ rfl (kid_ok h t) (kid_beg p l t) (hk t ht))).2
  dsimp only
  omega
end
end Go.Proofs.Ytlkjonlipnmbnaa
