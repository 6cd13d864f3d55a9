import Derived.Deep.RegionHeld
import Derived.Deep.RegionWith
import Derived.Deep.DrawnRows
import Derived.Test.YtgjiedjfplbipaaHeld
import Derived.Test.YtgjiedjfplbipaaVecBase
/- Vectors: above, right, Descends, Order; ref10.Above. -/
namespace Go.Proofs.Ytgjiedjfplbipaa
open Go.RowKit Go.Lib
section
/-- Does the one know all that the other one knows? -/
def abR (a : List En) : List En → Bool
  | [] => true
  | x :: l => !decide (cntR x.1 a < x.2) && abR a l
theorem abR_step (a : List En) {l : List En} {j : Nat} (h : j < l.length) : abR a (l.drop j) = (!decide (cntR (l.getD j (emp, 0)).1 a < (l.getD j (emp, 0)).2) && abR a (l.drop (j + 1))) := by
  rw [List.drop_eq_getElem_cons h, abR, getD_at l j _ h]
/-- A vector where it stands. -/
abbrev Vc := List En × Option Addr × Nat
def vcV (x : Vc) : Value := .slice x.2.1 x.1.length x.2.2
def vcC (x : Vc) : List Value := [vcV x]
theorem vcC_len (x : Vc) : (vcC x).length = 1 := rfl
def vc0 : Vc := ([], none, 0)
/-- The vectors stand in a world, and none is longer than a slice may be. -/
def Vcs (w : World) (l : List Vc) : Prop := ∀ x ∈ l, Row w x.2.1 (flat enC x.1)
theorem Vcs.below {w w' : World} {B : Nat} {l : List Vc} (h : Vcs w l) (hb : Below B w w') (hB : w.heap.size ≤ B) : Vcs w' l := fun x hx => (h x hx).below hb hB
def rtR : List Vc → Bool
  | [] => true
  | x :: l => decide (checkE x.1 = 0) && rtR l
theorem rtR_step {l : List Vc} {j : Nat} (h : j < l.length) : rtR (l.drop j) = (decide (checkE (l.getD j vc0).1 = 0) && rtR (l.drop (j + 1))) := by
  rw [List.drop_eq_getElem_cons h, rtR, getD_at l j _ h]
theorem cell_below {w w' : World} (hb : Below w.heap.size w w') {a : Addr} {v : Value} (hc : w.cell? a = some v) : w'.cell? a = some v := (hb.cell (World.block_lt_of_cell? _ _ hc)).trans hc
set_option maxRecDepth 100000 in
theorem above_1 (a : List En) (A : Option Addr) (c : Nat) (k : ByteArray) (m : Int) (b : Nat) (w : World) (h : Row w A (flat enC a)) (hl : a.length ≤ 140737488351232) (hb : w.cell? ⟨b, 0, none⟩ = some (.slice A a.length c)) {R : Ending → World → Prop}
    (hR : ∀ w', Below w.heap.size w w' → R (.returned (.bool (decide (cntR k a < m)))) w') :
    Calls Try.prog 113 #[.agg #[.string k, .int .u64 m], .pointer (some ⟨b, 0, none⟩)] w R := by
  have HR := Lib.hid hR
  clear hR
  go_enter Try.func113, Try.ntmps113
  go_upto_region 1 with fail
  have hbx := Blk.new w 82 #[.string k, .int .u64 m]
  have hx := (Below.refl w.heap.size w).alloc (Nat.le_refl _) (.cells #[.string k, .int .u64 m] 82)
  have d := cell_below hx hb
  have hr := h.below hx (Nat.le_refl _)
  generalize w.alloc (.cells #[.string k, .int .u64 m] 82) = wa at *
  have q0 := hbx.cell 0
  have q1 := hbx.cell 1
  dsimp at q0 q1
  obtain ⟨bx, hbx2⟩ : ∃ bx, w.heap.size = bx := ⟨_, rfl⟩
  rw [hbx2] at q0 q1 ⊢
  have HBX := Lib.hid hbx2
  clear hbx2 hbx
  refine wp_region_held_drew (S := fun w' => w'.cell? ⟨b, 0, none⟩ = some (.slice A a.length c) ∧ w'.cell? ⟨bx, 0, none⟩ = some (.string k) ∧ w'.cell? ⟨bx, 1, none⟩ = some (.int .u64 m) ∧ Row w' A (flat enC a) ∧ Below w.heap.size w w') (by kernel_rfl) ⟨d, q0, q1, hr, below_drewN hx 1⟩ (fun hHeld => ?_)
  clear d q0 q1 hr hx
  refine held_take (i := 0) (v := ?_) rfl (by kernel_rfl) (by kernel_rfl) (by kernel_rfl) (fun _ _ _ h => h) (by rfl) (by assumption) (fun w hSw => ?_) ?_
  rotate_left
  · (try dsimp only at hSw)
    go_simp
    try with_reducible rfl
  try simp only [Act.put, List.setIfInBounds_toArray, List.set_cons_zero, List.set_cons_succ]
  refine held_take (i := 1) (v := ?_) rfl (by kernel_rfl) (by kernel_rfl) (by kernel_rfl) (fun _ _ _ h => h) (by rfl) (by assumption) (fun w hSw => ?_) ?_
  rotate_left
  · (try dsimp only at hSw)
    go_simp
    try with_reducible rfl
  try simp only [Act.put, List.setIfInBounds_toArray, List.set_cons_zero, List.set_cons_succ]
  refine held_take (i := 2) (v := ?_) rfl (by kernel_rfl) (by kernel_rfl) (by kernel_rfl) (fun _ _ _ h => h) (by rfl) (by assumption) (fun w hSw => ?_) ?_
  rotate_left
  · (try dsimp only at hSw)
    go_simp
    try with_reducible rfl
  try simp only [Act.put, List.setIfInBounds_toArray, List.set_cons_zero, List.set_cons_succ]
  refine held_take (i := 4) (v := ?_) rfl (by kernel_rfl) (by kernel_rfl) (by kernel_rfl) (fun _ _ _ h => h) (by rfl) (by assumption) (fun w hSw => ?_) ?_
  rotate_left
  · (try dsimp only at hSw)
    go_simp
    try with_reducible rfl
  try simp only [Act.put, List.setIfInBounds_toArray, List.set_cons_zero, List.set_cons_succ]
  refine held_take (i := 5) (v := ?_) rfl (by kernel_rfl) (by kernel_rfl) (by kernel_rfl) (fun _ _ _ h => h) (by rfl) (by assumption) (fun w hSw => ?_) ?_
  rotate_left
  · (try dsimp only at hSw)
    go_simp
    try with_reducible rfl
  try simp only [Act.put, List.setIfInBounds_toArray, List.set_cons_zero, List.set_cons_succ]
  refine wpAnyH_ready (rs := [3]) (by kernel_rfl) (by simp) ?_
  refine held_cons (i := 3) rfl (by rfl) (fun K hK => ?_) AllReadyH.nil
  go_simp
  refine vector_Count a A c k _ hHeld.2.2.2.1 hl ?_
  intro w2 hx2
  have hb2 := hx2.below (Nat.le_refl _) (fun _ _ => id)
  refine hK.out _ _ ⟨cell_below hb2 hHeld.1, cell_below hb2 hHeld.2.1, cell_below hb2 hHeld.2.2.1, hHeld.2.2.2.1.below hb2 (Nat.le_refl _), hHeld.2.2.2.2.trans (hb2.mono hHeld.2.2.2.2.size)⟩ (fun hHeld => ?_)
  clear hK K
  try simp only [Act.put, List.setIfInBounds_toArray, List.set_cons_zero, List.set_cons_succ]
  have hbf := hHeld.2.2.2.2
  refine held_take (i := 6) (v := ?_) rfl (by kernel_rfl) (by kernel_rfl) (by kernel_rfl) (fun _ _ _ h => h) (by rfl) (by assumption) (fun w hSw => ?_) ?_
  rotate_left
  · (try dsimp only at hSw)
    go_simp
    try with_reducible rfl
  try simp only [Act.put, List.setIfInBounds_toArray, List.set_cons_zero, List.set_cons_succ]
  refine held_take (i := 7) (v := ?_) rfl (by kernel_rfl) (by kernel_rfl) (by kernel_rfl) (fun _ _ _ h => h) (by rfl) (by assumption) (fun w hSw => ?_) ?_
  rotate_left
  · (try dsimp only at hSw)
    go_simp
    try with_reducible rfl
  try simp only [Act.put, List.setIfInBounds_toArray, List.set_cons_zero, List.set_cons_succ]
  refine wpAnyH_done (by kernel_rfl) ?_ _
  go_wp2_with fail
  first | exact HR.out _ hbf | (simp only [Array.getD_eq_getD_getElem?, List.setIfInBounds_toArray, List.set_cons_zero, List.set_cons_succ]; exact HR.out _ hbf) | (simp; exact HR.out _ hbf)
set_option maxHeartbeats 2000000 in
set_option maxRecDepth 100000 in
theorem index_above (a l : List En) (A B : Option Addr) (c d g : Nat) (w : World) (h1 : Row w A (flat enC a)) (h2 : Row w B (flat enC l)) (hla : a.length ≤ 140737488351232) (hl : l.length ≤ 140737488351232) (hg : w.cell? ⟨g, 0, none⟩ = some (.slice A a.length c)) {R : Ending → World → Prop}
    (hR : ∀ r w', decide (0 ≤ r) = !abR a l → Below w.heap.size w w' → R (.returned (.int .i64 r)) w') :
    Calls Try.prog 126 #[.slice B l.length d, .func (.func 113) #[] #[.pointer (some ⟨g, 0, none⟩)]] w R := by
  have HR := Lib.hid hR
  clear hR
  have hl0 : (0 : Int) ≤ (l.length : Int) := Int.natCast_nonneg _
  obtain ⟨v, hv⟩ : ∃ v, abR a l = v := ⟨_, rfl⟩
  rw [hv] at HR
  have HV := Lib.hid (show abR a (l.drop 0) = v by rw [List.drop_zero]; exact hv)
  clear hv
  go_enter Try.func126, Try.ntmps126
  go_wp2_with fail
  go_loopw [8] (fun i w' => ∃ j : Nat, i = .int .i64 (j : Int) ∧ j ≤ l.length ∧ Hid (abR a (l.drop j) = v) ∧ Below w.heap.size w w') (fun i _ => l.length - (RowKit.intOf i).toNat)
  case atStart => exact ⟨0, rfl, Nat.zero_le _, HV, Below.refl _ _⟩
  case round =>
    clear HV
    obtain ⟨j, rfl, hj, HVJ, hx⟩ := hrel
    have hj0 : (0 : Int) ≤ (j : Int) := Int.natCast_nonneg _
    by_cases hlt : j < l.length
    · have hj1 : (j : Int) < (l.length : Int) := by omega
      have hjd : decide ((j : Int) < (l.length : Int)) = true := decide_eq_true hj1
      obtain ⟨b, o, hA, hb, d0, d1⟩ := (h2.below hx (Nat.le_refl _)).en j hlt
      have hr := h1.below hx (Nat.le_refl _)
      have hgr := cell_below hx hg
      obtain ⟨⟨k, m⟩, hkm⟩ : ∃ x, l.getD j (emp, 0) = x := ⟨_, rfl⟩
      have hvj := HVJ.out
      rw [abR_step a hlt, hkm] at hvj
      rw [hkm] at d0 d1
      dsimp only at d0 d1 hvj
      replace HVJ := Lib.hid hvj
      subst hA
      clear hkm hvj
      go_wp2_with fail
      refine above_1 a A c k m g wr hr hla hgr ?_
      intro w2 hb2
      replace hx := hx.trans (hb2.mono hx.size)
      have hvj := HVJ.out
      clear hr hgr hb2 d0 d1 HVJ
      generalize decide (cntR k a < m) = z at *
      cases z
      · have HVJ := Lib.hid (show abR a (l.drop (j + 1)) = v by simpa using hvj)
        clear hvj
        go_wp2_with fail
        go_roundw
        case rel => exact ⟨j + 1, by go_num, by omega, HVJ, hx⟩
        case measure => simp [RowKit.intOf]; omega
      · have hf : v = false := by simpa using hvj.symm
        subst hf
        clear hvj
        go_wp2_with fail
        exact HR.out _ _ (by simp) hx
    · have hje : j = l.length := by omega
      have hj1 : ¬ (j : Int) < (l.length : Int) := by omega
      have hjd : decide ((j : Int) < (l.length : Int)) = false := decide_eq_false hj1
      have hvj := HVJ.out
      rw [hje, List.drop_of_length_le (Nat.le_refl _), abR] at hvj
      subst hvj
      clear hje HVJ
      go_wp2_with fail
      exact HR.out _ _ (by decide) hx
set_option maxRecDepth 100000 in
theorem vector_above (a l : List En) (A B : Option Addr) (c d : Nat) (w : World) (h1 : Row w A (flat enC a)) (h2 : Row w B (flat enC l)) (hla : a.length ≤ 140737488351232) (hl : l.length ≤ 140737488351232) {R : Ending → World → Prop}
    (hR : ∀ w', Below w.heap.size w w' → R (.returned (.bool (abR a l))) w') :
    Calls Try.prog 88 #[.slice A a.length c, .slice B l.length d] w R := by
  have HR := Lib.hid hR
  clear hR
  have hl0 : (0 : Int) ≤ (a.length : Int) := Int.natCast_nonneg _
  go_enter Try.func88, Try.ntmps88
  go_upto_region 1 with fail
  have hbx := Blk.new w 61 #[.slice A a.length c]
  have hx := (Below.refl w.heap.size w).alloc (Nat.le_refl _) (.cells #[.slice A a.length c] 61)
  replace h1 := h1.below hx (Nat.le_refl _)
  replace h2 := h2.below hx (Nat.le_refl _)
  generalize w.alloc (.cells #[.slice A a.length c] 61) = wa at *
  have q0 := hbx.cell 0
  dsimp at q0
  obtain ⟨bx, hbx2⟩ : ∃ bx, w.heap.size = bx := ⟨_, rfl⟩
  rw [hbx2] at q0 ⊢
  have HBX := Lib.hid hbx2
  clear hbx2 hbx
  go_wp2_with (first
    | (go_at_call 112; go_enter Try.func112, Try.ntmps112))
  refine index_above a l A B c d bx wa h1 h2 hla hl q0 ?_
  intro r w2 hr hb2
  replace hx := hx.trans (hb2.mono hx.size)
  generalize abR a l = z at *
  clear h1 h2 q0 hb2
  cases z
  · have hr' : decide (0 ≤ r) = true := hr
    have hr2 : 0 ≤ r := of_decide_eq_true hr'
    clear hr
    go_wp2_with fail
    exact HR.out _ hx
  · have hr' : decide (0 ≤ r) = false := hr
    have hr2 : ¬ 0 ≤ r := of_decide_eq_false hr'
    clear hr
    go_wp2_with fail
    exact HR.out _ hx
set_option maxRecDepth 100000 in
theorem right_1 (a : List En) (A : Option Addr) (c : Nat) (w : World) (h : Row w A (flat enC a)) {R : Ending → World → Prop}
    (hR : ∀ w', Below w.heap.size w w' → R (.returned (.bool (!decide (checkE a = 0)))) w') :
    Calls Try.prog 111 #[.slice A a.length c] w R := by
  have HR := Lib.hid hR
  clear hR
  go_enter Try.func111, Try.ntmps111
  go_wp2_with fail
  refine vector_Check a A c w h ?_
  rw [show checkL 64 (enF a) a.length = checkE a from rfl]
  intro w' hb
  generalize checkE a = z at *
  by_cases hz : z = 0
  · have hz1 : (z != 0) = false := by simpa using hz
    rw [decide_eq_true hz] at HR
    clear hz
    go_wp2_with fail
    exact HR.out _ hb
  · have hz1 : (z != 0) = true := by simpa using hz
    rw [decide_eq_false hz] at HR
    clear hz
    go_wp2_with fail
    exact HR.out _ hb
set_option maxHeartbeats 2000000 in
set_option maxRecDepth 100000 in
theorem vector_right (l : List Vc) (B : Option Addr) (d : Nat) (w : World) (h2 : Row w B (flat vcC l)) (h1 : Vcs w l) {R : Ending → World → Prop}
    (hR : ∀ w', Below w.heap.size w w' → R (.returned (.bool (rtR l))) w') (hl : l.length ≤ 140737488351232) :
    Calls Try.prog 87 #[.slice B l.length d] w R := by
  have HR := Lib.hid hR
  clear hR
  have hl0 : (0 : Int) ≤ (l.length : Int) := Int.natCast_nonneg _
  obtain ⟨v, hv⟩ : ∃ v, rtR l = v := ⟨_, rfl⟩
  rw [hv] at HR
  have HV := Lib.hid (show rtR (l.drop 0) = v by rw [List.drop_zero]; exact hv)
  clear hv
  go_enter Try.func87, Try.ntmps87
  go_wp2_with (first
    | (go_at_call 110; go_enter Try.func110, Try.ntmps110)
    | (go_at_call 125; go_enter Try.func125, Try.ntmps125))
  go_loopw [8] (fun i w' => ∃ j : Nat, i = .int .i64 (j : Int) ∧ j ≤ l.length ∧ Hid (rtR (l.drop j) = v) ∧ Below w.heap.size w w') (fun i _ => l.length - (RowKit.intOf i).toNat)
  case atStart => exact ⟨0, rfl, Nat.zero_le _, HV, Below.refl _ _⟩
  case round =>
    clear HV
    obtain ⟨j, rfl, hj, HVJ, hx⟩ := hrel
    have hj0 : (0 : Int) ≤ (j : Int) := Int.natCast_nonneg _
    by_cases hlt : j < l.length
    · have hj1 : (j : Int) < (l.length : Int) := by omega
      have hjd : decide ((j : Int) < (l.length : Int)) = true := decide_eq_true hj1
      obtain ⟨b, o, hA, hb, hc⟩ := (h2.below hx (Nat.le_refl _)).at_ vcC_len (by decide) j hlt
      have d0 := hc 0 _ rfl
      have hvj := HVJ.out
      rw [rtR_step hlt, getD_at l j _ hlt] at hvj
      have hr := h1 _ (List.getElem_mem hlt)
      replace hr := hr.below hx (Nat.le_refl _)
      obtain ⟨⟨a, A, c⟩, hkm⟩ : ∃ x, l[j] = x := ⟨_, rfl⟩
      rw [hkm] at d0 hvj hr
      unfold vcV at d0
      dsimp only at d0 hvj hr
      rw [Nat.mul_one, Nat.add_zero] at d0
      replace HVJ := Lib.hid hvj
      subst hA
      clear hkm hvj hc
      go_wp2_with fail
      refine right_1 a A c wr hr ?_
      intro w2 hb2
      replace hx := hx.trans (hb2.mono hx.size)
      have hvj := HVJ.out
      clear hr hb2 d0 HVJ
      generalize decide (checkE a = 0) = z at *
      cases z
      · have hf : v = false := by simpa using hvj.symm
        subst hf
        clear hvj
        go_wp2_with fail
        exact HR.out _ hx
      · have HVJ := Lib.hid (show rtR (l.drop (j + 1)) = v by simpa using hvj)
        clear hvj
        go_wp2_with fail
        go_roundw
        case rel => exact ⟨j + 1, by go_num, by omega, HVJ, hx⟩
        case measure => simp [RowKit.intOf]; omega
    · have hje : j = l.length := by omega
      have hj1 : ¬ (j : Int) < (l.length : Int) := by omega
      have hjd : decide ((j : Int) < (l.length : Int)) = false := decide_eq_false hj1
      have hvj := HVJ.out
      rw [hje, List.drop_of_length_le (Nat.le_refl _), rtR] at hvj
      subst hvj
      clear hje HVJ
      go_wp2_with fail
      exact HR.out _ hx
end
end Go.Proofs.Ytgjiedjfplbipaa
/- Vectors: Descends, Order; ref10.Above. -/
namespace Go.Proofs.Ytgjiedjfplbipaa
open Go.RowKit Go.Lib
section
def rt2 (a b : List En) : Bool := decide (checkE a = 0) && decide (checkE b = 0)
def descR (a b : List En) : Bool := rt2 a b && abR a b
def orderR (a b : List En) : Int × Bool := if rt2 a b = true then (if (abR a b && abR b a) = true then (0, true) else if abR a b = true then (1, true) else if abR b a = true then (-1, true) else (2, true)) else (0, false)
theorem rtR_two (a b : List En) (A B : Option Addr) (c d : Nat) : rtR [(a, A, c), (b, B, d)] = rt2 a b := by simp [rtR, rt2]
theorem vcs_two {w : World} {a b : List En} {A B : Option Addr} {c d : Nat} (h1 : Row w A (flat enC a)) (h2 : Row w B (flat enC b)) : Vcs w [(a, A, c), (b, B, d)] := fun x hx => by
  simp only [List.mem_cons, List.not_mem_nil, or_false] at hx
  rcases hx with rfl | rfl
  · exact h1
  · exact h2
theorem row_two (w : World) (a b : List En) (A B : Option Addr) (c d : Nat) : Row (w.alloc (.cells #[.slice A a.length c, .slice B b.length d] 61)) (some ⟨w.heap.size, 0, none⟩) (flat vcC [(a, A, c), (b, B, d)]) :=
  Row.new w 61 #[.slice A a.length c, .slice B b.length d]
set_option maxHeartbeats 2000000 in
set_option maxRecDepth 100000 in
theorem vector_Order (a b : List En) (A B : Option Addr) (c d : Nat) (w : World) (h1 : Row w A (flat enC a)) (h2 : Row w B (flat enC b)) (hla : a.length ≤ 140737488351232) (hlb : b.length ≤ 140737488351232) {R : Ending → World → Prop}
    (hR : ∀ w', Below w.heap.size w w' → R (.returned (.tuple #[.int .i64 (orderR a b).1, .bool (orderR a b).2])) w') :
    Calls Try.prog 45 #[.slice A a.length c, .slice B b.length d] w R := by
  have HR := Lib.hid hR
  clear hR
  go_enter Try.func45, Try.ntmps45
  go_wp2_with fail
  have hb0 := (Below.refl w.heap.size w).alloc (Nat.le_refl _) (.cells #[.slice A a.length c, .slice B b.length d] 61)
  refine vector_right [(a, A, c), (b, B, d)] _ 2 _ (row_two w a b A B c d) ((vcs_two h1 h2).below hb0 (Nat.le_refl _)) ?_ (by simp)
  rw [rtR_two]
  intro w1 hb1
  replace hb1 := hb0.trans (hb1.mono hb0.size)
  obtain ⟨z, hz⟩ : ∃ z, rt2 a b = z := ⟨_, rfl⟩
  unfold orderR at HR
  rw [hz] at HR ⊢
  clear hz hb0
  cases z
  · go_wp2_with fail
    exact HR.out _ hb1
  rw [if_pos rfl] at HR
  go_wp2_with fail
  refine vector_above a b A B c d w1 (h1.below hb1 (Nat.le_refl _)) (h2.below hb1 (Nat.le_refl _)) hla hlb ?_
  intro w2 hb2
  replace hb2 := hb1.trans (hb2.mono hb1.size)
  clear hb1
  generalize abR a b = u at *
  go_wp2_with fail
  refine vector_above b a B A d c w2 (h2.below hb2 (Nat.le_refl _)) (h1.below hb2 (Nat.le_refl _)) hlb hla ?_
  intro w3 hb3
  replace hb3 := hb2.trans (hb3.mono hb2.size)
  clear hb2
  generalize abR b a = v at *
  cases u <;> cases v
  all_goals
    go_wp2_with fail
    exact HR.out _ hb3
set_option maxHeartbeats 2000000 in
set_option maxRecDepth 100000 in
theorem vector_Descends (a b : List En) (A B : Option Addr) (c d : Nat) (w : World) (h1 : Row w A (flat enC a)) (h2 : Row w B (flat enC b)) (hla : a.length ≤ 140737488351232) (hlb : b.length ≤ 140737488351232) {R : Ending → World → Prop}
    (hR : ∀ w', Below w.heap.size w w' → R (.returned (.bool (descR a b))) w') :
    Calls Try.prog 46 #[.slice A a.length c, .slice B b.length d] w R := by
  have HR := Lib.hid hR
  clear hR
  go_enter Try.func46, Try.ntmps46
  go_wp2_with fail
  have hb0 := (Below.refl w.heap.size w).alloc (Nat.le_refl _) (.cells #[.slice A a.length c, .slice B b.length d] 61)
  refine vector_right [(a, A, c), (b, B, d)] _ 2 _ (row_two w a b A B c d) ((vcs_two h1 h2).below hb0 (Nat.le_refl _)) ?_ (by simp)
  rw [rtR_two]
  intro w1 hb1
  replace hb1 := hb0.trans (hb1.mono hb0.size)
  obtain ⟨z, hz⟩ : ∃ z, rt2 a b = z := ⟨_, rfl⟩
  unfold descR at HR
  rw [hz] at HR ⊢
  clear hz hb0
  cases z
  · go_wp2_with fail
    exact HR.out _ hb1
  go_wp2_with fail
  refine vector_above a b A B c d w1 (h1.below hb1 (Nat.le_refl _)) (h2.below hb1 (Nat.le_refl _)) hla hlb ?_
  intro w2 hb2
  replace hb2 := hb1.trans (hb2.mono hb1.size)
  clear hb1
  rw [Bool.true_and] at HR
  generalize abR a b = u at *
  go_wp2_with fail
  exact HR.out _ hb2
def Drw (w w' : World) : Prop := ∃ n, w' = w.drewN n
theorem Drw.step {w w' : World} (h : Drw w w') (n : Nat) : Drw w (w'.drewN n) := by
  obtain ⟨m, rfl⟩ := h
  exact ⟨m + n, World.drewN_drewN _ _ _⟩
theorem Row.drw {w w' : World} {A : Option Addr} {cs : List Value} (h : Row w A cs) (hd : Drw w w') : Row w' A cs := by
  obtain ⟨n, rfl⟩ := hd
  exact h
set_option maxHeartbeats 2000000 in
set_option maxRecDepth 100000 in
theorem ref10_Above (a l : List En) (A B : Option Addr) (c d : Nat) (w : World) (h1 : Row w A (flat enC a)) (h2 : Row w B (flat enC l)) (hla : a.length ≤ 140737488351232) (hl : l.length ≤ 140737488351232) {R : Ending → World → Prop}
    (hR : ∀ w', Drw w w' → R (.returned (.bool (abR a l))) w') :
    Calls Try.prog 44 #[.slice A a.length c, .slice B l.length d] w R := by
  have HR := Lib.hid hR
  clear hR
  have hl0 : (0 : Int) ≤ (l.length : Int) := Int.natCast_nonneg _
  obtain ⟨v, hv⟩ : ∃ v, abR a l = v := ⟨_, rfl⟩
  rw [hv] at HR
  have HV := Lib.hid (show abR a (l.drop 0) = v by rw [List.drop_zero]; exact hv)
  clear hv
  go_enter Try.func44, Try.ntmps44
  go_wp2_with fail
  go_loopw [5] (fun i w' => ∃ j : Nat, i = .int .i64 (j : Int) ∧ j ≤ l.length ∧ Hid (abR a (l.drop j) = v) ∧ Drw w w') (fun i _ => l.length - (RowKit.intOf i).toNat)
  case atStart => exact ⟨0, rfl, Nat.zero_le _, HV, 0, rfl⟩
  case round =>
    clear HV
    obtain ⟨j, rfl, hj, HVJ, hdw⟩ := hrel
    have hj0 : (0 : Int) ≤ (j : Int) := Int.natCast_nonneg _
    by_cases hlt : j < l.length
    · have hj1 : (j : Int) < (l.length : Int) := by omega
      have hjd : decide ((j : Int) < (l.length : Int)) = true := decide_eq_true hj1
      obtain ⟨b, o, hA, hb, d0, d1⟩ := (h2.drw hdw).en j hlt
      obtain ⟨⟨k, m⟩, hkm⟩ : ∃ x, l.getD j (emp, 0) = x := ⟨_, rfl⟩
      have hvj := HVJ.out
      rw [abR_step a hlt, hkm] at hvj
      rw [hkm] at d0 d1
      dsimp only at d0 d1 hvj
      subst hA
      clear hkm
      have hr := h1.drw hdw
      have hqt := fun W (h : Row W A (flat enC a)) => ref10_Count a A c k W h hla
      generalize cntR k a = q at *
      by_cases hc : q < m
      · have hcd : decide (q < m) = true := decide_eq_true hc
        rw [hcd] at hvj
        obtain rfl : v = false := by simpa using hvj.symm
        clear hvj HVJ
        go_wp2_with fail
        go_quiet ((first
          | (go_at_call 41; exact quiet_l (hqt _ (by exact hr)))))
        go_wp2_with fail
        exact HR.out _ (hdw.step _)
      · have hcd : decide (q < m) = false := decide_eq_false hc
        rw [hcd] at hvj
        replace HVJ := Lib.hid (show abR a (l.drop (j + 1)) = v by simpa using hvj)
        clear hvj
        go_wp2_with fail
        go_quiet ((first
          | (go_at_call 41; exact quiet_l (hqt _ (by exact hr)))))
        go_wp2_with fail
        go_roundw
        case rel => exact ⟨j + 1, by go_num, by omega, HVJ, hdw.step _⟩
        case measure => simp [RowKit.intOf]; omega
    · have hje : j = l.length := by omega
      have hj1 : ¬ (j : Int) < (l.length : Int) := by omega
      have hjd : decide ((j : Int) < (l.length : Int)) = false := decide_eq_false hj1
      have hvj := HVJ.out
      rw [hje, List.drop_of_length_le (Nat.le_refl _), abR] at hvj
      subst hvj
      clear hje HVJ
      go_wp2_with fail
      exact HR.out _ hdw
end
end Go.Proofs.Ytgjiedjfplbipaa
