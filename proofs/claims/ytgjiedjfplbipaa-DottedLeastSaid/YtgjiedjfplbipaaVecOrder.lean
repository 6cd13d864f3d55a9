/- Vectors: Descends, Order; ref10.Above. -/
import Derived.Test.YtgjiedjfplbipaaVecAbove
namespace Go.Proofs.Ytgjiedjfplbipaa
open Go.RowKit Go.Lib
section
def rt2 (a b : List En) : Bool := decide (checkE a = 0) && decide (checkE b = 0)
def descR (a b : List En) : Bool := rt2 a b && abR a b
def orderR (a b : List En) : Int × Bool := if rt2 a b = true then (if (abR a b && abR b a) = true then (0, true) else if abR a b = true then (1, true) else if abR b a = true then (-1, true) else (2, true)) else (0, false)
theorem rtR_two (a b : List En) (A B : Option Addr) (c d : Nat) : rtR [(a, A, c), (b, B, d)] = rt2 a b := by simp [rtR, rt2]
theorem vcs_two {w : World} {a b : List En} {A B : Option Addr} {c d : Nat} (h1 : Row w A (flat enC a)) (h2 : Row w B (flat enC b)) : Vcs w [(a, A, c), (b, B, d)] := fun x hx => by
  simp only [List.mem_cons, List.not_mem_nil, or_false] at hx
  rcases hx with rfl | rfl
  · exact h1
  · exact h2
theorem row_two (w : World) (a b : List En) (A B : Option Addr) (c d : Nat) : Row (w.alloc (.cells #[.slice A a.length c, .slice B b.length d] 61)) (some ⟨w.heap.size, 0, none⟩) (flat vcC [(a, A, c), (b, B, d)]) :=
  Row.new w 61 #[.slice A a.length c, .slice B b.length d]
set_option maxHeartbeats 2000000 in
set_option maxRecDepth 100000 in
theorem vector_Order (a b : List En) (A B : Option Addr) (c d : Nat) (w : World) (h1 : Row w A (flat enC a)) (h2 : Row w B (flat enC b)) (hla : a.length ≤ 140737488351232) (hlb : b.length ≤ 140737488351232) {R : Ending → World → Prop}
    (hR : ∀ w', Below w.heap.size w w' → R (.returned (.tuple #[.int .i64 (orderR a b).1, .bool (orderR a b).2])) w') :
    Calls Try.prog 45 #[.slice A a.length c, .slice B b.length d] w R := by
  have HR := Lib.hid hR
  clear hR
  go_enter Try.func45, Try.ntmps45
  go_wp2_with fail
  have hb0 := (Below.refl w.heap.size w).alloc (Nat.le_refl _) (.cells #[.slice A a.length c, .slice B b.length d] 61)
  refine vector_right [(a, A, c), (b, B, d)] _ 2 _ (row_two w a b A B c d) ((vcs_two h1 h2).below hb0 (Nat.le_refl _)) ?_ (by simp)
  rw [rtR_two]
  intro w1 hb1
  replace hb1 := hb0.trans (hb1.mono hb0.size)
  obtain ⟨z, hz⟩ : ∃ z, rt2 a b = z := ⟨_, rfl⟩
  unfold orderR at HR
  rw [hz] at HR ⊢
  clear hz hb0
  cases z
  · go_wp2_with fail
    exact HR.out _ hb1
  rw [if_pos rfl] at HR
  go_wp2_with fail
  refine vector_above a b A B c d w1 (h1.below hb1 (Nat.le_refl _)) (h2.below hb1 (Nat.le_refl _)) hla hlb ?_
  intro w2 hb2
  replace hb2 := hb1.trans (hb2.mono hb1.size)
  clear hb1
  generalize abR a b = u at *
  go_wp2_with fail
  refine vector_above b a B A d c w2 (h2.below hb2 (Nat.le_refl _)) (h1.below hb2 (Nat.le_refl _)) hlb hla ?_
  intro w3 hb3
  replace hb3 := hb2.trans (hb3.mono hb2.size)
  clear hb2
  generalize abR b a = v at *
  cases u <;> cases v
  all_goals
    go_wp2_with fail
    exact HR.out _ hb3
set_option maxHeartbeats 2000000 in
set_option maxRecDepth 100000 in
theorem vector_Descends (a b : List En) (A B : Option Addr) (c d : Nat) (w : World) (h1 : Row w A (flat enC a)) (h2 : Row w B (flat enC b)) (hla : a.length ≤ 140737488351232) (hlb : b.length ≤ 140737488351232) {R : Ending → World → Prop}
    (hR : ∀ w', Below w.heap.size w w' → R (.returned (.bool (descR a b))) w') :
    Calls Try.prog 46 #[.slice A a.length c, .slice B b.length d] w R := by
  have HR := Lib.hid hR
  clear hR
  go_enter Try.func46, Try.ntmps46
  go_wp2_with fail
  have hb0 := (Below.refl w.heap.size w).alloc (Nat.le_refl _) (.cells #[.slice A a.length c, .slice B b.length d] 61)
  refine vector_right [(a, A, c), (b, B, d)] _ 2 _ (row_two w a b A B c d) ((vcs_two h1 h2).below hb0 (Nat.le_refl _)) ?_ (by simp)
  rw [rtR_two]
  intro w1 hb1
  replace hb1 := hb0.trans (hb1.mono hb0.size)
  obtain ⟨z, hz⟩ : ∃ z, rt2 a b = z := ⟨_, rfl⟩
  unfold descR at HR
  rw [hz] at HR ⊢
  clear hz hb0
  cases z
  · go_wp2_with fail
    exact HR.out _ hb1
  go_wp2_with fail
  refine vector_above a b A B c d w1 (h1.below hb1 (Nat.le_refl _)) (h2.below hb1 (Nat.le_refl _)) hla hlb ?_
  intro w2 hb2
  replace hb2 := hb1.trans (hb2.mono hb1.size)
  clear hb1
  rw [Bool.true_and] at HR
  generalize abR a b = u at *
  go_wp2_with fail
  exact HR.out _ hb2
def Drw (w w' : World) : Prop := ∃ n, w' = w.drewN n
theorem Drw.step {w w' : World} (h : Drw w w') (n : Nat) : Drw w (w'.drewN n) := by
  obtain ⟨m, rfl⟩ := h
  exact ⟨m + n, World.drewN_drewN _ _ _⟩
theorem Row.drw {w w' : World} {A : Option Addr} {cs : List Value} (h : Row w A cs) (hd : Drw w w') : Row w' A cs := by
  obtain ⟨n, rfl⟩ := hd
  exact h
set_option maxHeartbeats 2000000 in
set_option maxRecDepth 100000 in
theorem ref10_Above (a l : List En) (A B : Option Addr) (c d : Nat) (w : World) (h1 : Row w A (flat enC a)) (h2 : Row w B (flat enC l)) (hla : a.length ≤ 140737488351232) (hl : l.length ≤ 140737488351232) {R : Ending → World → Prop}
    (hR : ∀ w', Drw w w' → R (.returned (.bool (abR a l))) w') :
    Calls Try.prog 44 #[.slice A a.length c, .slice B l.length d] w R := by
  have HR := Lib.hid hR
  clear hR
  have hl0 : (0 : Int) ≤ (l.length : Int) := Int.natCast_nonneg _
  obtain ⟨v, hv⟩ : ∃ v, abR a l = v := ⟨_, rfl⟩
  rw [hv] at HR
  have HV := Lib.hid (show abR a (l.drop 0) = v by rw [List.drop_zero]; exact hv)
  clear hv
  go_enter Try.func44, Try.ntmps44
  go_wp2_with fail
  go_loopw [5] (fun i w' => ∃ j : Nat, i = .int .i64 (j : Int) ∧ j ≤ l.length ∧ Hid (abR a (l.drop j) = v) ∧ Drw w w') (fun i _ => l.length - (RowKit.intOf i).toNat)
  case atStart => exact ⟨0, rfl, Nat.zero_le _, HV, 0, rfl⟩
  case round =>
    clear HV
    obtain ⟨j, rfl, hj, HVJ, hdw⟩ := hrel
    have hj0 : (0 : Int) ≤ (j : Int) := Int.natCast_nonneg _
    by_cases hlt : j < l.length
    · have hj1 : (j : Int) < (l.length : Int) := by omega
      have hjd : decide ((j : Int) < (l.length : Int)) = true := decide_eq_true hj1
      obtain ⟨b, o, hA, hb, d0, d1⟩ := (h2.drw hdw).en j hlt
      obtain ⟨⟨k, m⟩, hkm⟩ : ∃ x, l.getD j (emp, 0) = x := ⟨_, rfl⟩
      have hvj := HVJ.out
      rw [abR_step a hlt, hkm] at hvj
      rw [hkm] at d0 d1
      dsimp only at d0 d1 hvj
      subst hA
      clear hkm
      have hr := h1.drw hdw
      have hqt := fun W (h : Row W A (flat enC a)) => ref10_Count a A c k W h hla
      generalize cntR k a = q at *
      by_cases hc : q < m
      · have hcd : decide (q < m) = true := decide_eq_true hc
        rw [hcd] at hvj
        obtain rfl : v = false := by simpa using hvj.symm
        clear hvj HVJ
        go_wp2_with fail
        go_quiet ((first
          | (go_at_call 41; exact quiet_l (hqt _ (by exact hr)))))
        go_wp2_with fail
        exact HR.out _ (hdw.step _)
      · have hcd : decide (q < m) = false := decide_eq_false hc
        rw [hcd] at hvj
        replace HVJ := Lib.hid (show abR a (l.drop (j + 1)) = v by simpa using hvj)
        clear hvj
        go_wp2_with fail
        go_quiet ((first
          | (go_at_call 41; exact quiet_l (hqt _ (by exact hr)))))
        go_wp2_with fail
        go_roundw
        case rel => exact ⟨j + 1, by go_num, by omega, HVJ, hdw.step _⟩
        case measure => simp [RowKit.intOf]; omega
    · have hje : j = l.length := by omega
      have hj1 : ¬ (j : Int) < (l.length : Int) := by omega
      have hjd : decide ((j : Int) < (l.length : Int)) = false := decide_eq_false hj1
      have hvj := HVJ.out
      rw [hje, List.drop_of_length_le (Nat.le_refl _), abR] at hvj
      subst hvj
      clear hje HVJ
      go_wp2_with fail
      exact HR.out _ hdw
end
end Go.Proofs.Ytgjiedjfplbipaa
