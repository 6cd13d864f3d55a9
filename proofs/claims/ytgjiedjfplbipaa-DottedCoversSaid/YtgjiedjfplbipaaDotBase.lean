import Derived.Deep.RegionHeld
import Derived.Deep.RegionWith
import Derived.Deep.DrawnRows
import Derived.Test.YtgjiedjfplbipaaHeld
import Derived.Test.YtgjiedjfplbipaaVecAwake
/- Clocks: Check. -/

namespace Go.Proofs.Ytgjiedjfplbipaa
open Go.RowKit Go.Lib
section
/-- A clock where it stands: its vector, whether it has a dot, the dot. -/
abbrev Ck := Vc × Bool × En
def ckC (k : Ck) : List Value := [vcV k.1, .bool k.2.1, .string k.2.2.1, .int .u64 k.2.2.2]
theorem ckC_len (k : Ck) : (ckC k).length = 4 := rfl
def ck0 : Ck := (vc0, false, emp, 0)
def checkK (v : List En) (b : Bool) (s : ByteArray) (n : Int) : Int :=
  if checkE v ≠ 0 then checkE v else if b = false then (if s.size = 0 ∧ n = 0 then 0 else 1) else if 32 < s.size then 3 else if s.size = 0 then 14 else if n = 0 then 7 else if n ≤ cntR s v then 15 else 0
theorem checkK_v {v : List En} {b : Bool} {s : ByteArray} {n : Int} (h : checkE v ≠ 0) : checkK v b s n = checkE v := by unfold checkK; rw [if_pos h]
set_option maxHeartbeats 2000000 in
set_option maxRecDepth 100000 in
theorem dotted_Check (v : List En) (A : Option Addr) (c : Nat) (b : Bool) (s : ByteArray) (n : Int) (w : World) (h : Row w A (flat enC v)) {R : Ending → World → Prop}
    (hR : ∀ w', Below w.heap.size w w' → R (.returned (.int .i64 (checkK v b s n))) w') :
    Calls Try.prog 63 #[.agg #[.slice A v.length c, .bool b, .string s, .int .u64 n]] w R := by
  have HR := Lib.hid hR
  clear hR
  obtain ⟨ck, hck⟩ : ∃ z, checkE v = z := ⟨_, rfl⟩
  have HCK := Lib.hid hck
  clear hck
  go_enter Try.func63, Try.ntmps63
  go_upto_region 1 with fail
  have hbxk := Blk.new w 84 #[.slice A v.length c, .bool b, .string s, .int .u64 n]
  have hbxx := (Below.refl w.heap.size w).alloc (Nat.le_refl _) (.cells #[.slice A v.length c, .bool b, .string s, .int .u64 n] 84)
  generalize w.alloc (.cells #[.slice A v.length c, .bool b, .string s, .int .u64 n] 84) = wa at *
  have q0 := hbxk.cell 0
  have q1 := hbxk.cell 1
  have q2 := hbxk.cell 2
  have q3 := hbxk.cell 3
  dsimp at q0 q1 q2 q3
  obtain ⟨bx, hbxe⟩ : ∃ b, w.heap.size = b := ⟨_, rfl⟩
  rw [hbxe] at q0 q1 q2 q3 ⊢
  have HBX := Lib.hid hbxe
  clear hbxe hbxk
  go_wp2_with fail
  refine vector_Check v A c wa (h.below hbxx (Nat.le_refl _)) ?_
  rw [show checkL 64 (enF v) v.length = ck from HCK.out]
  intro w1 hb1
  replace q0 := cell_below hb1 q0
  replace q1 := cell_below hb1 q1
  replace q2 := cell_below hb1 q2
  replace q3 := cell_below hb1 q3
  have hbw := hbxx.trans (hb1.mono hbxx.size)
  replace h := h.below hbw (Nat.le_refl _)
  clear hb1 hbxx
  by_cases hz : ck = 0
  rotate_left
  · have hzb : (ck != 0) = true := by simpa using hz
    rw [checkK_v (by rw [HCK.out]; exact hz), HCK.out] at HR
    clear hz
    go_wp2_with fail
    exact HR.out _ hbw
  have hv64 := (checkE_ok (HCK.out.trans hz)).len
  have hzb : (ck != 0) = false := by simpa using hz
  unfold checkK at HR
  rw [HCK.out, if_neg (fun e => e hz)] at HR
  clear hz HCK
  cases b
  · by_cases hs : s.size = 0
    · have e1 := str_em s hs
      by_cases hn : n = 0
      · subst hn
        rw [if_pos rfl, if_pos ⟨hs, rfl⟩] at HR
        clear hs
        go_wp2_with fail
        exact HR.out _ hbw
      · have e2 : (n == 0) = false := by simpa using hn
        rw [if_pos rfl, if_neg (fun e => hn e.2)] at HR
        clear hs hn
        go_wp2_with fail
        exact HR.out _ hbw
    · have e1 := str_ne' s (by omega)
      rw [if_pos rfl, if_neg (fun e => hs e.1)] at HR
      clear hs
      go_wp2_with fail
      exact HR.out _ hbw
  rw [if_neg (by decide)] at HR
  by_cases h1 : 32 < s.size
  · have e1 : (32 : Int) < (s.size : Int) := by omega
    have e2 : decide ((32 : Int) < (s.size : Int)) = true := decide_eq_true e1
    rw [if_pos h1] at HR
    clear h1
    go_wp2_with fail
    exact HR.out _ hbw
  have e1 : ¬ (32 : Int) < (s.size : Int) := by omega
  have e2 : decide ((32 : Int) < (s.size : Int)) = false := decide_eq_false e1
  rw [if_neg h1] at HR
  by_cases h2 : s.size = 0
  · have e3 := str_em s h2
    rw [if_pos h2] at HR
    clear h1 h2
    go_wp2_with fail
    exact HR.out _ hbw
  have e3 := str_ne' s (by omega)
  rw [if_neg h2] at HR
  by_cases h3 : n = 0
  · subst h3
    rw [if_pos rfl] at HR
    clear h1 h2
    go_wp2_with fail
    exact HR.out _ hbw
  have e4 : (n == 0) = false := by simpa using h3
  rw [if_neg h3] at HR
  clear h1 h2 h3
  have hct := fun W h R => vector_Count v A c s W h (by omega) (R := R)
  generalize cntR s v = q at *
  have hb0 := Nat.le_refl w1.heap.size
  go_upto_region 14 with fail
  refine wp_region_held_drew (S := fun w' => w'.cell? ⟨bx, 0, none⟩ = some (.slice A v.length c) ∧ w'.cell? ⟨bx, 2, none⟩ = some (.string s) ∧ w'.cell? ⟨bx, 3, none⟩ = some (.int .u64 n) ∧ Row w' A (flat enC v) ∧ Below w.heap.size w w') (by kernel_rfl) ⟨q0, q2, q3, h, below_drewN hbw _⟩ (fun hHeld => ?_)
  clear q0 q1 q2 q3 h hbw hb0
  refine held_take (i := 0) (v := ?_) rfl (by kernel_rfl) (by kernel_rfl) (by kernel_rfl) (fun _ _ _ h => h) (by rfl) (by assumption) (fun w hSw => ?_) ?_
  rotate_left
  · (try dsimp only at hSw)
    go_simp
    try with_reducible rfl
  try simp only [Act.put, List.setIfInBounds_toArray, List.set_cons_zero, List.set_cons_succ]
  refine held_take (i := 1) (v := ?_) rfl (by kernel_rfl) (by kernel_rfl) (by kernel_rfl) (fun _ _ _ h => h) (by rfl) (by assumption) (fun w hSw => ?_) ?_
  rotate_left
  · (try dsimp only at hSw)
    go_simp
    try with_reducible rfl
  try simp only [Act.put, List.setIfInBounds_toArray, List.set_cons_zero, List.set_cons_succ]
  refine held_take (i := 2) (v := ?_) rfl (by kernel_rfl) (by kernel_rfl) (by kernel_rfl) (fun _ _ _ h => h) (by rfl) (by assumption) (fun w hSw => ?_) ?_
  rotate_left
  · (try dsimp only at hSw)
    go_simp
    try with_reducible rfl
  try simp only [Act.put, List.setIfInBounds_toArray, List.set_cons_zero, List.set_cons_succ]
  refine held_take (i := 3) (v := ?_) rfl (by kernel_rfl) (by kernel_rfl) (by kernel_rfl) (fun _ _ _ h => h) (by rfl) (by assumption) (fun w hSw => ?_) ?_
  rotate_left
  · (try dsimp only at hSw)
    go_simp
    try with_reducible rfl
  try simp only [Act.put, List.setIfInBounds_toArray, List.set_cons_zero, List.set_cons_succ]
  refine held_take (i := 4) (v := ?_) rfl (by kernel_rfl) (by kernel_rfl) (by kernel_rfl) (fun _ _ _ h => h) (by rfl) (by assumption) (fun w hSw => ?_) ?_
  rotate_left
  · (try dsimp only at hSw)
    go_simp
    try with_reducible rfl
  try simp only [Act.put, List.setIfInBounds_toArray, List.set_cons_zero, List.set_cons_succ]
  refine held_take (i := 5) (v := ?_) rfl (by kernel_rfl) (by kernel_rfl) (by kernel_rfl) (fun _ _ _ h => h) (by rfl) (by assumption) (fun w hSw => ?_) ?_
  rotate_left
  · (try dsimp only at hSw)
    go_simp
    try with_reducible rfl
  try simp only [Act.put, List.setIfInBounds_toArray, List.set_cons_zero, List.set_cons_succ]
  refine held_take (i := 6) (v := ?_) rfl (by kernel_rfl) (by kernel_rfl) (by kernel_rfl) (fun _ _ _ h => h) (by rfl) (by assumption) (fun w hSw => ?_) ?_
  rotate_left
  · (try dsimp only at hSw)
    go_simp
    try with_reducible rfl
  try simp only [Act.put, List.setIfInBounds_toArray, List.set_cons_zero, List.set_cons_succ]
  refine held_take (i := 7) (v := ?_) rfl (by kernel_rfl) (by kernel_rfl) (by kernel_rfl) (fun _ _ _ h => h) (by rfl) (by assumption) (fun w hSw => ?_) ?_
  rotate_left
  · (try dsimp only at hSw)
    go_simp
    try with_reducible rfl
  try simp only [Act.put, List.setIfInBounds_toArray, List.set_cons_zero, List.set_cons_succ]
  refine wpAnyH_ready (rs := [8]) (by kernel_rfl) (by simp) ?_
  refine held_cons (i := 8) rfl (by rfl) (fun K hK => ?_) AllReadyH.nil
  go_simp
  refine hct _ hHeld.2.2.2.1 _ ?_
  intro w2 hx2
  have hb2 := hx2.below (Nat.le_refl _) (fun _ _ => id)
  refine hK.out _ _ ⟨cell_below hb2 hHeld.1, cell_below hb2 hHeld.2.1, cell_below hb2 hHeld.2.2.1, hHeld.2.2.2.1.below hb2 (Nat.le_refl _), hHeld.2.2.2.2.trans (hb2.mono hHeld.2.2.2.2.size)⟩ (fun hHeld => ?_)
  clear hK K
  try simp only [Act.put, List.setIfInBounds_toArray, List.set_cons_zero, List.set_cons_succ]
  have hbf := hHeld.2.2.2.2
  refine held_take (i := 9) (v := ?_) rfl (by kernel_rfl) (by kernel_rfl) (by kernel_rfl) (fun _ _ _ h => h) (by rfl) (by assumption) (fun w hSw => ?_) ?_
  rotate_left
  · (try dsimp only at hSw)
    go_simp
    try with_reducible rfl
  try simp only [Act.put, List.setIfInBounds_toArray, List.set_cons_zero, List.set_cons_succ]
  refine held_take (i := 10) (v := ?_) rfl (by kernel_rfl) (by kernel_rfl) (by kernel_rfl) (fun _ _ _ h => h) (by rfl) (by assumption) (fun w hSw => ?_) ?_
  rotate_left
  · (try dsimp only at hSw)
    go_simp
    try with_reducible rfl
  try simp only [Act.put, List.setIfInBounds_toArray, List.set_cons_zero, List.set_cons_succ]
  clear hct
  by_cases h4 : n ≤ q
  · have e5 : decide (n ≤ q) = true := decide_eq_true h4
    rw [if_pos h4] at HR
    refine wpAnyH_done (by kernel_rfl) ?_ _
    go_wp2_with fail
    exact HR.out _ hbf
  · have e5 : decide (n ≤ q) = false := decide_eq_false h4
    rw [if_neg h4] at HR
    refine wpAnyH_done (by kernel_rfl) ?_ _
    go_wp2_with fail
    exact HR.out _ hbf
end
end Go.Proofs.Ytgjiedjfplbipaa
/- The document's clocks: Check, Knows, Same, Great. -/
namespace Go.Proofs.Ytgjiedjfplbipaa
open Go.RowKit Go.Lib
section
set_option maxHeartbeats 2000000 in
set_option maxRecDepth 100000 in
theorem ref12_Check (v : List En) (A : Option Addr) (c : Nat) (b : Bool) (s : ByteArray) (n : Int) (w : World) (h : Row w A (flat enC v)) {R : Ending → World → Prop}
    (hR : ∀ w', Below w.heap.size w w' → R (.returned (.int .i64 (checkK v b s n))) w') :
    Calls Try.prog 61 #[.agg #[.slice A v.length c, .bool b, .string s, .int .u64 n]] w R := by
  have HR := Lib.hid hR
  clear hR
  obtain ⟨ck, hck⟩ : ∃ z, checkE v = z := ⟨_, rfl⟩
  have HCK := Lib.hid hck
  clear hck
  go_enter Try.func61, Try.ntmps61
  go_upto_region 1 with fail
  have hbxk := Blk.new w 84 #[.slice A v.length c, .bool b, .string s, .int .u64 n]
  have hbxx := (Below.refl w.heap.size w).alloc (Nat.le_refl _) (.cells #[.slice A v.length c, .bool b, .string s, .int .u64 n] 84)
  generalize w.alloc (.cells #[.slice A v.length c, .bool b, .string s, .int .u64 n] 84) = wa at *
  have q0 := hbxk.cell 0
  have q1 := hbxk.cell 1
  have q2 := hbxk.cell 2
  have q3 := hbxk.cell 3
  dsimp at q0 q1 q2 q3
  obtain ⟨bx, hbxe⟩ : ∃ b, w.heap.size = b := ⟨_, rfl⟩
  rw [hbxe] at q0 q1 q2 q3 ⊢
  have HBX := Lib.hid hbxe
  clear hbxe hbxk
  go_wp2_with fail
  refine ref10_Check v A c wa (h.below hbxx (Nat.le_refl _)) ?_
  rw [show checkL 64 (enF v) v.length = ck from HCK.out]
  intro w1 hb1
  replace q0 := cell_below hb1 q0
  replace q1 := cell_below hb1 q1
  replace q2 := cell_below hb1 q2
  replace q3 := cell_below hb1 q3
  have hbw := hbxx.trans (hb1.mono hbxx.size)
  replace h := h.below hbw (Nat.le_refl _)
  clear hb1 hbxx
  by_cases hz : ck = 0
  rotate_left
  · have hzb : (ck != 0) = true := by simpa using hz
    rw [checkK_v (by rw [HCK.out]; exact hz), HCK.out] at HR
    clear hz
    go_wp2_with fail
    exact HR.out _ hbw
  have hv64 := (checkE_ok (HCK.out.trans hz)).len
  have hzb : (ck != 0) = false := by simpa using hz
  unfold checkK at HR
  rw [HCK.out, if_neg (fun e => e hz)] at HR
  clear hz HCK
  cases b
  · by_cases hs : s.size = 0
    · have e1 := str_em s hs
      by_cases hn : n = 0
      · subst hn
        rw [if_pos rfl, if_pos ⟨hs, rfl⟩] at HR
        clear hs
        go_wp2_with fail
        exact HR.out _ hbw
      · have e2 : (n == 0) = false := by simpa using hn
        have e2' : (n != 0) = true := by simpa using hn
        rw [if_pos rfl, if_neg (fun e => hn e.2)] at HR
        clear hs hn
        go_wp2_with fail
        exact HR.out _ hbw
    · have e1 := str_ne' s (by omega)
      rw [if_pos rfl, if_neg (fun e => hs e.1)] at HR
      clear hs
      go_wp2_with fail
      exact HR.out _ hbw
  rw [if_neg (by decide)] at HR
  by_cases h1 : 32 < s.size
  · have e1 : (32 : Int) < (s.size : Int) := by omega
    have e2 : decide ((32 : Int) < (s.size : Int)) = true := decide_eq_true e1
    rw [if_pos h1] at HR
    clear h1
    go_wp2_with fail
    exact HR.out _ hbw
  have e1 : ¬ (32 : Int) < (s.size : Int) := by omega
  have e2 : decide ((32 : Int) < (s.size : Int)) = false := decide_eq_false e1
  rw [if_neg h1] at HR
  by_cases h2 : s.size = 0
  · have e3 : ((s.size : Int) == 0) = true := by simp [h2]
    rw [if_pos h2] at HR
    clear h1 h2
    go_wp2_with fail
    exact HR.out _ hbw
  have e3 : ((s.size : Int) == 0) = false := by simp only [beq_eq_false_iff_ne]; omega
  rw [if_neg h2] at HR
  by_cases h3 : n = 0
  · subst h3
    rw [if_pos rfl] at HR
    clear h1 h2
    go_wp2_with fail
    exact HR.out _ hbw
  have e4 : (n == 0) = false := by simpa using h3
  rw [if_neg h3] at HR
  clear h1 h2 h3
  have hct := fun W h => ref10_Count v A c s W h (by omega)
  generalize cntR s v = q at *
  by_cases h4 : n ≤ q
  · have e5 : decide (n ≤ q) = true := decide_eq_true h4
    rw [if_pos h4] at HR
    go_wp2_with fail
    go_quiet ((first
      | (go_at_call 41; exact quiet_l (hct _ (by exact h)))))
    go_wp2_with fail
    exact HR.out _ (below_drewN hbw _)
  · have e5 : decide (n ≤ q) = false := decide_eq_false h4
    rw [if_neg h4] at HR
    go_wp2_with fail
    go_quiet ((first
      | (go_at_call 41; exact quiet_l (hct _ (by exact h)))))
    go_wp2_with fail
    exact HR.out _ (below_drewN hbw _)
/-- Is an event known, of a right clock? -/
def knowsR (v : List En) (b : Bool) (s : ByteArray) (n : Int) (k : ByteArray) (m : Int) : Bool :=
  decide (m ≠ 0) && ((b && decide (s = k) && decide (n = m)) || decide (m ≤ cntR k v))
set_option maxHeartbeats 2000000 in
set_option maxRecDepth 100000 in
theorem ref12_Knows (v : List En) (A : Option Addr) (c : Nat) (b : Bool) (s : ByteArray) (n : Int) (k : ByteArray) (m : Int) (w : World) (h : Row w A (flat enC v)) (hl : v.length ≤ 140737488351232) {R : Ending → World → Prop}
    (hR : ∀ w', Below w.heap.size w w' → R (.returned (.bool (knowsR v b s n k m))) w') :
    Calls Try.prog 66 #[.agg #[.slice A v.length c, .bool b, .string s, .int .u64 n], .string k, .int .u64 m] w R := by
  have HR := Lib.hid hR
  clear hR
  have hct := fun W h => ref10_Count v A c k W h hl
  unfold knowsR at HR
  generalize cntR k v = q at *
  go_enter Try.func66, Try.ntmps66
  go_upto_region 1 with fail
  have hbxk := Blk.new w 84 #[.slice A v.length c, .bool b, .string s, .int .u64 n]
  have hbxx := (Below.refl w.heap.size w).alloc (Nat.le_refl _) (.cells #[.slice A v.length c, .bool b, .string s, .int .u64 n] 84)
  generalize w.alloc (.cells #[.slice A v.length c, .bool b, .string s, .int .u64 n] 84) = wa at *
  have q0 := hbxk.cell 0
  have q1 := hbxk.cell 1
  have q2 := hbxk.cell 2
  have q3 := hbxk.cell 3
  dsimp at q0 q1 q2 q3
  obtain ⟨bx, hbxe⟩ : ∃ b, w.heap.size = b := ⟨_, rfl⟩
  rw [hbxe] at q0 q1 q2 q3 ⊢
  have HBX := Lib.hid hbxe
  clear hbxe hbxk
  replace h := h.below hbxx (Nat.le_refl _)
  have hbw := hbxx
  clear hbxx
  by_cases hm : m = 0
  · subst hm
    rw [decide_eq_false (by decide), Bool.false_and] at HR
    go_wp2_with fail
    exact HR.out _ hbw
  have hmb : (m == 0) = false := by simpa using hm
  rw [decide_eq_true hm, Bool.true_and] at HR
  clear hm
  have hkb := toList_beq s k
  have hnb : (n == m) = decide (n = m) := int_beq n m
  generalize decide (s = k) = x at *
  generalize decide (n = m) = y at *
  cases b <;> cases x <;> cases y
  all_goals
    simp only [Bool.and_true, Bool.and_false, Bool.false_or, Bool.true_or] at HR
    go_wp2_with fail
    first
      | exact HR.out _ hbw
      | (refine (hct wa h).mono ?_
         rintro e w' ⟨rfl, rfl⟩
         go_wp2_with fail
         exact HR.out _ hbw)
end
end Go.Proofs.Ytgjiedjfplbipaa
/- dotted.knows, dotted.Knows, dotted.covers, dotted.Covers, dotted.Same. -/
namespace Go.Proofs.Ytgjiedjfplbipaa
open Go.RowKit Go.Lib
section
theorem if_two (s k : ByteArray) (n m : Int) (w : World) : (if s = k then if n = m then Result.ok (Next.value (Value.bool true)) w else Result.ok (Next.value (Value.bool false)) w else Result.ok (Next.value (Value.bool false)) w) = Result.ok (Next.value (Value.bool (decide (s = k) && decide (n = m)))) w := by
  by_cases hs : s = k <;> by_cases hn : n = m <;> simp [hs, hn]
set_option maxHeartbeats 4000000 in
set_option maxRecDepth 100000 in
theorem dotted_knows (v : List En) (A : Option Addr) (c : Nat) (b : Bool) (s : ByteArray) (n : Int) (k : ByteArray) (m : Int) (w : World) (h : Row w A (flat enC v)) (hl : v.length ≤ 140737488351232) (hm0 : 0 ≤ m) {R : Ending → World → Prop}
    (hR : ∀ w', Below w.heap.size w w' → R (.returned (.bool (knowsR v b s n k m))) w') :
    Calls Try.prog 93 #[.agg #[.slice A v.length c, .bool b, .string s, .int .u64 n], .agg #[.string k, .int .u64 m]] w R := by
  have HR := Lib.hid hR
  clear hR
  have hct := fun W h R => vector_Count v A c k W h hl (R := R)
  unfold knowsR at HR
  generalize cntR k v = q at *
  go_enter Try.func93, Try.ntmps93
  go_upto_region 1 with fail
  have hbxk := Blk.new w 84 #[.slice A v.length c, .bool b, .string s, .int .u64 n]
  have hbxx := (Below.refl w.heap.size w).alloc (Nat.le_refl _) (.cells #[.slice A v.length c, .bool b, .string s, .int .u64 n] 84)
  have hsz : (w.alloc (.cells #[.slice A v.length c, .bool b, .string s, .int .u64 n] 84)).heap.size = w.heap.size + 1 := by simp
  generalize w.alloc (.cells #[.slice A v.length c, .bool b, .string s, .int .u64 n] 84) = wa at *
  have hbyk := Blk.new wa 82 #[.string k, .int .u64 m]
  rw [hsz] at hbyk
  replace hbxk := hbxk.alloc (.cells #[.string k, .int .u64 m] 82)
  replace hbxx := hbxx.alloc hbxx.size (.cells #[.string k, .int .u64 m] 82)
  generalize wa.alloc (.cells #[.string k, .int .u64 m] 82) = wb at *
  have q0 := hbxk.cell 0
  have q1 := hbxk.cell 1
  have q2 := hbxk.cell 2
  have q3 := hbxk.cell 3
  have r0 := hbyk.cell 0
  have r1 := hbyk.cell 1
  dsimp at q0 q1 q2 q3 r0 r1
  obtain ⟨bx, hbxe⟩ : ∃ b, w.heap.size = b := ⟨_, rfl⟩
  obtain ⟨bY, hbye⟩ : ∃ b, w.heap.size + 1 = b := ⟨_, rfl⟩
  rw [hbye] at r0 r1 ⊢
  rw [hbxe] at q0 q1 q2 q3 ⊢
  clear hsz hbxe hbye hbxk hbyk
  replace h := h.below hbxx (Nat.le_refl _)
  refine wp_region_held_drew (S := fun w' => w'.cell? ⟨bx, 0, none⟩ = some (.slice A v.length c) ∧ w'.cell? ⟨bx, 1, none⟩ = some (.bool b) ∧ w'.cell? ⟨bx, 2, none⟩ = some (.string s) ∧ w'.cell? ⟨bx, 3, none⟩ = some (.int .u64 n) ∧ w'.cell? ⟨bY, 0, none⟩ = some (.string k) ∧ w'.cell? ⟨bY, 1, none⟩ = some (.int .u64 m) ∧ Row w' A (flat enC v) ∧ Below w.heap.size w w') (by kernel_rfl) ⟨q0, q1, q2, q3, r0, r1, h, below_drewN hbxx _⟩ (fun hHeld => ?_)
  clear q0 q1 q2 q3 r0 r1 h hbxx
  have hkb := toList_beq s k
  have hnb : (n == m) = decide (n = m) := int_beq n m
  first
    | (refine held_take (i := 0) (v := ?_) rfl (by kernel_rfl) (by kernel_rfl) (by kernel_rfl) (fun _ _ _ h => h) (by rfl) (by assumption) (fun w hSw => ?_) ?_
       rotate_left
       · (try dsimp only at hSw)
         go_simp
         try with_reducible rfl
       try simp only [Act.put, List.setIfInBounds_toArray, List.set_cons_zero, List.set_cons_succ])
    | (refine held_skip (i := 0) rfl (by kernel_rfl) (by kernel_rfl) (by kernel_rfl) (fun _ _ _ h => h) (by rfl) (by assumption) ?_
       try simp only [Act.put, List.setIfInBounds_toArray, List.set_cons_zero, List.set_cons_succ])
  first
    | (refine held_take (i := 1) (v := ?_) rfl (by kernel_rfl) (by kernel_rfl) (by kernel_rfl) (fun _ _ _ h => h) (by rfl) (by assumption) (fun w hSw => ?_) ?_
       rotate_left
       · (try dsimp only at hSw)
         go_simp
         try with_reducible rfl
       try simp only [Act.put, List.setIfInBounds_toArray, List.set_cons_zero, List.set_cons_succ])
    | (refine held_skip (i := 1) rfl (by kernel_rfl) (by kernel_rfl) (by kernel_rfl) (fun _ _ _ h => h) (by rfl) (by assumption) ?_
       try simp only [Act.put, List.setIfInBounds_toArray, List.set_cons_zero, List.set_cons_succ])
  first
    | (refine held_take (i := 2) (v := ?_) rfl (by kernel_rfl) (by kernel_rfl) (by kernel_rfl) (fun _ _ _ h => h) (by rfl) (by assumption) (fun w hSw => ?_) ?_
       rotate_left
       · (try dsimp only at hSw)
         go_simp
         try with_reducible rfl
       try simp only [Act.put, List.setIfInBounds_toArray, List.set_cons_zero, List.set_cons_succ])
    | (refine held_skip (i := 2) rfl (by kernel_rfl) (by kernel_rfl) (by kernel_rfl) (fun _ _ _ h => h) (by rfl) (by assumption) ?_
       try simp only [Act.put, List.setIfInBounds_toArray, List.set_cons_zero, List.set_cons_succ])
  by_cases hm : m = 0
  · subst hm
    rw [decide_eq_false (by decide), Bool.false_and] at HR
    rw [show decide ((0 : Int) < 0) = false from rfl]
    first
      | (refine held_take (i := 3) (v := ?_) rfl (by kernel_rfl) (by kernel_rfl) (by kernel_rfl) (fun _ _ _ h => h) (by rfl) (by assumption) (fun w hSw => ?_) ?_
         rotate_left
         · (try dsimp only at hSw)
           go_simp
           try with_reducible rfl
         try simp only [Act.put, List.setIfInBounds_toArray, List.set_cons_zero, List.set_cons_succ])
      | (refine held_skip (i := 3) rfl (by kernel_rfl) (by kernel_rfl) (by kernel_rfl) (fun _ _ _ h => h) (by rfl) (by assumption) ?_
         try simp only [Act.put, List.setIfInBounds_toArray, List.set_cons_zero, List.set_cons_succ])
    first
      | (refine held_take (i := 4) (v := ?_) rfl (by kernel_rfl) (by kernel_rfl) (by kernel_rfl) (fun _ _ _ h => h) (by rfl) (by assumption) (fun w hSw => ?_) ?_
         rotate_left
         · (try dsimp only at hSw)
           go_simp
           try with_reducible rfl
         try simp only [Act.put, List.setIfInBounds_toArray, List.set_cons_zero, List.set_cons_succ])
      | (refine held_skip (i := 4) rfl (by kernel_rfl) (by kernel_rfl) (by kernel_rfl) (fun _ _ _ h => h) (by rfl) (by assumption) ?_
         try simp only [Act.put, List.setIfInBounds_toArray, List.set_cons_zero, List.set_cons_succ])
    first
      | (refine held_take (i := 5) (v := ?_) rfl (by kernel_rfl) (by kernel_rfl) (by kernel_rfl) (fun _ _ _ h => h) (by rfl) (by assumption) (fun w hSw => ?_) ?_
         rotate_left
         · (try dsimp only at hSw)
           go_simp
           try with_reducible rfl
         try simp only [Act.put, List.setIfInBounds_toArray, List.set_cons_zero, List.set_cons_succ])
      | (refine held_skip (i := 5) rfl (by kernel_rfl) (by kernel_rfl) (by kernel_rfl) (fun _ _ _ h => h) (by rfl) (by assumption) ?_
         try simp only [Act.put, List.setIfInBounds_toArray, List.set_cons_zero, List.set_cons_succ])
    first
      | (refine held_take (i := 6) (v := ?_) rfl (by kernel_rfl) (by kernel_rfl) (by kernel_rfl) (fun _ _ _ h => h) (by rfl) (by assumption) (fun w hSw => ?_) ?_
         rotate_left
         · (try dsimp only at hSw)
           go_simp
           try with_reducible rfl
         try simp only [Act.put, List.setIfInBounds_toArray, List.set_cons_zero, List.set_cons_succ])
      | (refine held_skip (i := 6) rfl (by kernel_rfl) (by kernel_rfl) (by kernel_rfl) (fun _ _ _ h => h) (by rfl) (by assumption) ?_
         try simp only [Act.put, List.setIfInBounds_toArray, List.set_cons_zero, List.set_cons_succ])
    first
      | (refine held_take (i := 7) (v := ?_) rfl (by kernel_rfl) (by kernel_rfl) (by kernel_rfl) (fun _ _ _ h => h) (by rfl) (by assumption) (fun w hSw => ?_) ?_
         rotate_left
         · (try dsimp only at hSw)
           go_simp
           try with_reducible rfl
         try simp only [Act.put, List.setIfInBounds_toArray, List.set_cons_zero, List.set_cons_succ])
      | (refine held_skip (i := 7) rfl (by kernel_rfl) (by kernel_rfl) (by kernel_rfl) (fun _ _ _ h => h) (by rfl) (by assumption) ?_
         try simp only [Act.put, List.setIfInBounds_toArray, List.set_cons_zero, List.set_cons_succ])
    first
      | (refine held_take (i := 8) (v := ?_) rfl (by kernel_rfl) (by kernel_rfl) (by kernel_rfl) (fun _ _ _ h => h) (by rfl) (by assumption) (fun w hSw => ?_) ?_
         rotate_left
         · (try dsimp only at hSw)
           go_simp
           try with_reducible rfl
         try simp only [Act.put, List.setIfInBounds_toArray, List.set_cons_zero, List.set_cons_succ])
      | (refine held_skip (i := 8) rfl (by kernel_rfl) (by kernel_rfl) (by kernel_rfl) (fun _ _ _ h => h) (by rfl) (by assumption) ?_
         try simp only [Act.put, List.setIfInBounds_toArray, List.set_cons_zero, List.set_cons_succ])
    first
      | (refine held_take (i := 9) (v := ?_) rfl (by kernel_rfl) (by kernel_rfl) (by kernel_rfl) (fun _ _ _ h => h) (by rfl) (by assumption) (fun w hSw => ?_) ?_
         rotate_left
         · (try dsimp only at hSw)
           go_simp
           try with_reducible rfl
         try simp only [Act.put, List.setIfInBounds_toArray, List.set_cons_zero, List.set_cons_succ])
      | (refine held_skip (i := 9) rfl (by kernel_rfl) (by kernel_rfl) (by kernel_rfl) (fun _ _ _ h => h) (by rfl) (by assumption) ?_
         try simp only [Act.put, List.setIfInBounds_toArray, List.set_cons_zero, List.set_cons_succ])
    first
      | (refine held_take (i := 10) (v := ?_) rfl (by kernel_rfl) (by kernel_rfl) (by kernel_rfl) (fun _ _ _ h => h) (by rfl) (by assumption) (fun w hSw => ?_) ?_
         rotate_left
         · (try dsimp only at hSw)
           go_simp
           try with_reducible rfl
         try simp only [Act.put, List.setIfInBounds_toArray, List.set_cons_zero, List.set_cons_succ])
      | (refine held_skip (i := 10) rfl (by kernel_rfl) (by kernel_rfl) (by kernel_rfl) (fun _ _ _ h => h) (by rfl) (by assumption) ?_
         try simp only [Act.put, List.setIfInBounds_toArray, List.set_cons_zero, List.set_cons_succ])
    first
      | (refine held_take (i := 11) (v := ?_) rfl (by kernel_rfl) (by kernel_rfl) (by kernel_rfl) (fun _ _ _ h => h) (by rfl) (by assumption) (fun w hSw => ?_) ?_
         rotate_left
         · (try dsimp only at hSw)
           go_simp
           try with_reducible rfl
         try simp only [Act.put, List.setIfInBounds_toArray, List.set_cons_zero, List.set_cons_succ])
      | (refine held_skip (i := 11) rfl (by kernel_rfl) (by kernel_rfl) (by kernel_rfl) (fun _ _ _ h => h) (by rfl) (by assumption) ?_
         try simp only [Act.put, List.setIfInBounds_toArray, List.set_cons_zero, List.set_cons_succ])
    first
      | (refine held_take (i := 12) (v := ?_) rfl (by kernel_rfl) (by kernel_rfl) (by kernel_rfl) (fun _ _ _ h => h) (by rfl) (by assumption) (fun w hSw => ?_) ?_
         rotate_left
         · (try dsimp only at hSw)
           go_simp
           try with_reducible rfl
         try simp only [Act.put, List.setIfInBounds_toArray, List.set_cons_zero, List.set_cons_succ])
      | (refine held_skip (i := 12) rfl (by kernel_rfl) (by kernel_rfl) (by kernel_rfl) (fun _ _ _ h => h) (by rfl) (by assumption) ?_
         try simp only [Act.put, List.setIfInBounds_toArray, List.set_cons_zero, List.set_cons_succ])
    first
      | (refine held_take (i := 13) (v := ?_) rfl (by kernel_rfl) (by kernel_rfl) (by kernel_rfl) (fun _ _ _ h => h) (by rfl) (by assumption) (fun w hSw => ?_) ?_
         rotate_left
         · (try dsimp only at hSw)
           go_simp
           try with_reducible rfl
         try simp only [Act.put, List.setIfInBounds_toArray, List.set_cons_zero, List.set_cons_succ])
      | (refine held_skip (i := 13) rfl (by kernel_rfl) (by kernel_rfl) (by kernel_rfl) (fun _ _ _ h => h) (by rfl) (by assumption) ?_
         try simp only [Act.put, List.setIfInBounds_toArray, List.set_cons_zero, List.set_cons_succ])
    first
      | (refine held_take (i := 14) (v := ?_) rfl (by kernel_rfl) (by kernel_rfl) (by kernel_rfl) (fun _ _ _ h => h) (by rfl) (by assumption) (fun w hSw => ?_) ?_
         rotate_left
         · (try dsimp only at hSw)
           go_simp
           try with_reducible rfl
         try simp only [Act.put, List.setIfInBounds_toArray, List.set_cons_zero, List.set_cons_succ])
      | (refine held_skip (i := 14) rfl (by kernel_rfl) (by kernel_rfl) (by kernel_rfl) (fun _ _ _ h => h) (by rfl) (by assumption) ?_
         try simp only [Act.put, List.setIfInBounds_toArray, List.set_cons_zero, List.set_cons_succ])
    first
      | (refine held_take (i := 15) (v := ?_) rfl (by kernel_rfl) (by kernel_rfl) (by kernel_rfl) (fun _ _ _ h => h) (by rfl) (by assumption) (fun w hSw => ?_) ?_
         rotate_left
         · (try dsimp only at hSw)
           go_simp
           try with_reducible rfl
         try simp only [Act.put, List.setIfInBounds_toArray, List.set_cons_zero, List.set_cons_succ])
      | (refine held_skip (i := 15) rfl (by kernel_rfl) (by kernel_rfl) (by kernel_rfl) (fun _ _ _ h => h) (by rfl) (by assumption) ?_
         try simp only [Act.put, List.setIfInBounds_toArray, List.set_cons_zero, List.set_cons_succ])
    first
      | (refine held_take (i := 16) (v := ?_) rfl (by kernel_rfl) (by kernel_rfl) (by kernel_rfl) (fun _ _ _ h => h) (by rfl) (by assumption) (fun w hSw => ?_) ?_
         rotate_left
         · (try dsimp only at hSw)
           go_simp
           try with_reducible rfl
         try simp only [Act.put, List.setIfInBounds_toArray, List.set_cons_zero, List.set_cons_succ])
      | (refine held_skip (i := 16) rfl (by kernel_rfl) (by kernel_rfl) (by kernel_rfl) (fun _ _ _ h => h) (by rfl) (by assumption) ?_
         try simp only [Act.put, List.setIfInBounds_toArray, List.set_cons_zero, List.set_cons_succ])
    first
      | (refine held_take (i := 17) (v := ?_) rfl (by kernel_rfl) (by kernel_rfl) (by kernel_rfl) (fun _ _ _ h => h) (by rfl) (by assumption) (fun w hSw => ?_) ?_
         rotate_left
         · (try dsimp only at hSw)
           go_simp
           try with_reducible rfl
         try simp only [Act.put, List.setIfInBounds_toArray, List.set_cons_zero, List.set_cons_succ])
      | (refine held_skip (i := 17) rfl (by kernel_rfl) (by kernel_rfl) (by kernel_rfl) (fun _ _ _ h => h) (by rfl) (by assumption) ?_
         try simp only [Act.put, List.setIfInBounds_toArray, List.set_cons_zero, List.set_cons_succ])
    first
      | (refine held_take (i := 18) (v := ?_) rfl (by kernel_rfl) (by kernel_rfl) (by kernel_rfl) (fun _ _ _ h => h) (by rfl) (by assumption) (fun w hSw => ?_) ?_
         rotate_left
         · (try dsimp only at hSw)
           go_simp
           try with_reducible rfl
         try simp only [Act.put, List.setIfInBounds_toArray, List.set_cons_zero, List.set_cons_succ])
      | (refine held_skip (i := 18) rfl (by kernel_rfl) (by kernel_rfl) (by kernel_rfl) (fun _ _ _ h => h) (by rfl) (by assumption) ?_
         try simp only [Act.put, List.setIfInBounds_toArray, List.set_cons_zero, List.set_cons_succ])
    first
      | (refine held_take (i := 19) (v := ?_) rfl (by kernel_rfl) (by kernel_rfl) (by kernel_rfl) (fun _ _ _ h => h) (by rfl) (by assumption) (fun w hSw => ?_) ?_
         rotate_left
         · (try dsimp only at hSw)
           go_simp
           try with_reducible rfl
         try simp only [Act.put, List.setIfInBounds_toArray, List.set_cons_zero, List.set_cons_succ])
      | (refine held_skip (i := 19) rfl (by kernel_rfl) (by kernel_rfl) (by kernel_rfl) (fun _ _ _ h => h) (by rfl) (by assumption) ?_
         try simp only [Act.put, List.setIfInBounds_toArray, List.set_cons_zero, List.set_cons_succ])
    first
      | (refine held_take (i := 20) (v := ?_) rfl (by kernel_rfl) (by kernel_rfl) (by kernel_rfl) (fun _ _ _ h => h) (by rfl) (by assumption) (fun w hSw => ?_) ?_
         rotate_left
         · (try dsimp only at hSw)
           go_simp
           try with_reducible rfl
         try simp only [Act.put, List.setIfInBounds_toArray, List.set_cons_zero, List.set_cons_succ])
      | (refine held_skip (i := 20) rfl (by kernel_rfl) (by kernel_rfl) (by kernel_rfl) (fun _ _ _ h => h) (by rfl) (by assumption) ?_
         try simp only [Act.put, List.setIfInBounds_toArray, List.set_cons_zero, List.set_cons_succ])
    first
      | (refine held_take (i := 21) (v := ?_) rfl (by kernel_rfl) (by kernel_rfl) (by kernel_rfl) (fun _ _ _ h => h) (by rfl) (by assumption) (fun w hSw => ?_) ?_
         rotate_left
         · (try dsimp only at hSw)
           go_simp
           try with_reducible rfl
         try simp only [Act.put, List.setIfInBounds_toArray, List.set_cons_zero, List.set_cons_succ])
      | (refine held_skip (i := 21) rfl (by kernel_rfl) (by kernel_rfl) (by kernel_rfl) (fun _ _ _ h => h) (by rfl) (by assumption) ?_
         try simp only [Act.put, List.setIfInBounds_toArray, List.set_cons_zero, List.set_cons_succ])
    first
      | (refine held_take (i := 22) (v := ?_) rfl (by kernel_rfl) (by kernel_rfl) (by kernel_rfl) (fun _ _ _ h => h) (by rfl) (by assumption) (fun w hSw => ?_) ?_
         rotate_left
         · (try dsimp only at hSw)
           go_simp
           try with_reducible rfl
         try simp only [Act.put, List.setIfInBounds_toArray, List.set_cons_zero, List.set_cons_succ])
      | (refine held_skip (i := 22) rfl (by kernel_rfl) (by kernel_rfl) (by kernel_rfl) (fun _ _ _ h => h) (by rfl) (by assumption) ?_
         try simp only [Act.put, List.setIfInBounds_toArray, List.set_cons_zero, List.set_cons_succ])
    first
      | (refine held_take (i := 23) (v := ?_) rfl (by kernel_rfl) (by kernel_rfl) (by kernel_rfl) (fun _ _ _ h => h) (by rfl) (by assumption) (fun w hSw => ?_) ?_
         rotate_left
         · (try dsimp only at hSw)
           go_simp
           try with_reducible rfl
         try simp only [Act.put, List.setIfInBounds_toArray, List.set_cons_zero, List.set_cons_succ])
      | (refine held_skip (i := 23) rfl (by kernel_rfl) (by kernel_rfl) (by kernel_rfl) (fun _ _ _ h => h) (by rfl) (by assumption) ?_
         try simp only [Act.put, List.setIfInBounds_toArray, List.set_cons_zero, List.set_cons_succ])
    have hbf := hHeld.2.2.2.2.2.2.2
    refine wpAnyH_done (by kernel_rfl) ?_ _
    go_wp2_with fail
    exact HR.out _ hbf
  rw [decide_eq_true hm, Bool.true_and] at HR
  rw [decide_eq_true (show (0 : Int) < m by omega)]
  clear hm hm0
  first
    | (refine held_take (i := 3) (v := ?_) rfl (by kernel_rfl) (by kernel_rfl) (by kernel_rfl) (fun _ _ _ h => h) (by rfl) (by assumption) (fun w hSw => ?_) ?_
       rotate_left
       · (try dsimp only at hSw)
         go_simp
         try with_reducible rfl
       try simp only [Act.put, List.setIfInBounds_toArray, List.set_cons_zero, List.set_cons_succ])
    | (refine held_skip (i := 3) rfl (by kernel_rfl) (by kernel_rfl) (by kernel_rfl) (fun _ _ _ h => h) (by rfl) (by assumption) ?_
       try simp only [Act.put, List.setIfInBounds_toArray, List.set_cons_zero, List.set_cons_succ])
  first
    | (refine held_take (i := 4) (v := ?_) rfl (by kernel_rfl) (by kernel_rfl) (by kernel_rfl) (fun _ _ _ h => h) (by rfl) (by assumption) (fun w hSw => ?_) ?_
       rotate_left
       · (try dsimp only at hSw)
         go_simp
         try with_reducible rfl
       try simp only [Act.put, List.setIfInBounds_toArray, List.set_cons_zero, List.set_cons_succ])
    | (refine held_skip (i := 4) rfl (by kernel_rfl) (by kernel_rfl) (by kernel_rfl) (fun _ _ _ h => h) (by rfl) (by assumption) ?_
       try simp only [Act.put, List.setIfInBounds_toArray, List.set_cons_zero, List.set_cons_succ])
  first
    | (refine held_take (i := 5) (v := ?_) rfl (by kernel_rfl) (by kernel_rfl) (by kernel_rfl) (fun _ _ _ h => h) (by rfl) (by assumption) (fun w hSw => ?_) ?_
       rotate_left
       · (try dsimp only at hSw)
         go_simp
         try with_reducible rfl
       try simp only [Act.put, List.setIfInBounds_toArray, List.set_cons_zero, List.set_cons_succ])
    | (refine held_skip (i := 5) rfl (by kernel_rfl) (by kernel_rfl) (by kernel_rfl) (fun _ _ _ h => h) (by rfl) (by assumption) ?_
       try simp only [Act.put, List.setIfInBounds_toArray, List.set_cons_zero, List.set_cons_succ])
  first
    | (refine held_take (i := 6) (v := ?_) rfl (by kernel_rfl) (by kernel_rfl) (by kernel_rfl) (fun _ _ _ h => h) (by rfl) (by assumption) (fun w hSw => ?_) ?_
       rotate_left
       · (try dsimp only at hSw)
         go_simp
         try with_reducible rfl
       try simp only [Act.put, List.setIfInBounds_toArray, List.set_cons_zero, List.set_cons_succ])
    | (refine held_skip (i := 6) rfl (by kernel_rfl) (by kernel_rfl) (by kernel_rfl) (fun _ _ _ h => h) (by rfl) (by assumption) ?_
       try simp only [Act.put, List.setIfInBounds_toArray, List.set_cons_zero, List.set_cons_succ])
  first
    | (refine held_take (i := 7) (v := ?_) rfl (by kernel_rfl) (by kernel_rfl) (by kernel_rfl) (fun _ _ _ h => h) (by rfl) (by assumption) (fun w hSw => ?_) ?_
       rotate_left
       · (try dsimp only at hSw)
         go_simp
         try with_reducible rfl
       try simp only [Act.put, List.setIfInBounds_toArray, List.set_cons_zero, List.set_cons_succ])
    | (refine held_skip (i := 7) rfl (by kernel_rfl) (by kernel_rfl) (by kernel_rfl) (fun _ _ _ h => h) (by rfl) (by assumption) ?_
       try simp only [Act.put, List.setIfInBounds_toArray, List.set_cons_zero, List.set_cons_succ])
  first
    | (refine held_take (i := 8) (v := ?_) rfl (by kernel_rfl) (by kernel_rfl) (by kernel_rfl) (fun _ _ _ h => h) (by rfl) (by assumption) (fun w hSw => ?_) ?_
       rotate_left
       · (try dsimp only at hSw)
         go_simp
         try with_reducible rfl
       try simp only [Act.put, List.setIfInBounds_toArray, List.set_cons_zero, List.set_cons_succ])
    | (refine held_skip (i := 8) rfl (by kernel_rfl) (by kernel_rfl) (by kernel_rfl) (fun _ _ _ h => h) (by rfl) (by assumption) ?_
       try simp only [Act.put, List.setIfInBounds_toArray, List.set_cons_zero, List.set_cons_succ])
  first
    | (refine held_take (i := 9) (v := ?_) rfl (by kernel_rfl) (by kernel_rfl) (by kernel_rfl) (fun _ _ _ h => h) (by rfl) (by assumption) (fun w hSw => ?_) ?_
       rotate_left
       · (try dsimp only at hSw)
         go_simp
         try with_reducible rfl
       try simp only [Act.put, List.setIfInBounds_toArray, List.set_cons_zero, List.set_cons_succ])
    | (refine held_skip (i := 9) rfl (by kernel_rfl) (by kernel_rfl) (by kernel_rfl) (fun _ _ _ h => h) (by rfl) (by assumption) ?_
       try simp only [Act.put, List.setIfInBounds_toArray, List.set_cons_zero, List.set_cons_succ])
  refine wpAnyH_ready (rs := [10]) (by kernel_rfl) (by simp) ?_
  refine held_cons (i := 10) rfl (by rfl) (fun K hK => ?_) AllReadyH.nil
  go_simp
  refine hct _ hHeld.2.2.2.2.2.2.1 _ ?_
  intro w2 hx2
  have hb2 := hx2.below (Nat.le_refl _) (fun _ _ => id)
  refine hK.out _ _ ⟨cell_below hb2 hHeld.1, cell_below hb2 hHeld.2.1, cell_below hb2 hHeld.2.2.1, cell_below hb2 hHeld.2.2.2.1, cell_below hb2 hHeld.2.2.2.2.1, cell_below hb2 hHeld.2.2.2.2.2.1, hHeld.2.2.2.2.2.2.1.below hb2 (Nat.le_refl _), hHeld.2.2.2.2.2.2.2.trans (hb2.mono hHeld.2.2.2.2.2.2.2.size)⟩ (fun hHeld => ?_)
  clear hK K
  try simp only [Act.put, List.setIfInBounds_toArray, List.set_cons_zero, List.set_cons_succ]
  have hbf := hHeld.2.2.2.2.2.2.2
  clear hct
  first
    | (refine held_take (i := 11) (v := ?_) rfl (by kernel_rfl) (by kernel_rfl) (by kernel_rfl) (fun _ _ _ h => h) (by rfl) (by assumption) (fun w hSw => ?_) ?_
       rotate_left
       · (try dsimp only at hSw)
         go_simp
         try with_reducible rfl
       try simp only [Act.put, List.setIfInBounds_toArray, List.set_cons_zero, List.set_cons_succ])
    | (refine held_skip (i := 11) rfl (by kernel_rfl) (by kernel_rfl) (by kernel_rfl) (fun _ _ _ h => h) (by rfl) (by assumption) ?_
       try simp only [Act.put, List.setIfInBounds_toArray, List.set_cons_zero, List.set_cons_succ])
  by_cases hq : m ≤ q
  · rw [decide_eq_true hq, Bool.or_true] at HR
    rw [decide_eq_true hq]
    first
      | (refine held_take (i := 12) (v := ?_) rfl (by kernel_rfl) (by kernel_rfl) (by kernel_rfl) (fun _ _ _ h => h) (by rfl) (by assumption) (fun w hSw => ?_) ?_
         rotate_left
         · (try dsimp only at hSw)
           go_simp
           try with_reducible rfl
         try simp only [Act.put, List.setIfInBounds_toArray, List.set_cons_zero, List.set_cons_succ])
      | (refine held_skip (i := 12) rfl (by kernel_rfl) (by kernel_rfl) (by kernel_rfl) (fun _ _ _ h => h) (by rfl) (by assumption) ?_
         try simp only [Act.put, List.setIfInBounds_toArray, List.set_cons_zero, List.set_cons_succ])
    first
      | (refine held_take (i := 13) (v := ?_) rfl (by kernel_rfl) (by kernel_rfl) (by kernel_rfl) (fun _ _ _ h => h) (by rfl) (by assumption) (fun w hSw => ?_) ?_
         rotate_left
         · (try dsimp only at hSw)
           go_simp
           try with_reducible rfl
         try simp only [Act.put, List.setIfInBounds_toArray, List.set_cons_zero, List.set_cons_succ])
      | (refine held_skip (i := 13) rfl (by kernel_rfl) (by kernel_rfl) (by kernel_rfl) (fun _ _ _ h => h) (by rfl) (by assumption) ?_
         try simp only [Act.put, List.setIfInBounds_toArray, List.set_cons_zero, List.set_cons_succ])
    first
      | (refine held_take (i := 14) (v := ?_) rfl (by kernel_rfl) (by kernel_rfl) (by kernel_rfl) (fun _ _ _ h => h) (by rfl) (by assumption) (fun w hSw => ?_) ?_
         rotate_left
         · (try dsimp only at hSw)
           go_simp
           try with_reducible rfl
         try simp only [Act.put, List.setIfInBounds_toArray, List.set_cons_zero, List.set_cons_succ])
      | (refine held_skip (i := 14) rfl (by kernel_rfl) (by kernel_rfl) (by kernel_rfl) (fun _ _ _ h => h) (by rfl) (by assumption) ?_
         try simp only [Act.put, List.setIfInBounds_toArray, List.set_cons_zero, List.set_cons_succ])
    first
      | (refine held_take (i := 15) (v := ?_) rfl (by kernel_rfl) (by kernel_rfl) (by kernel_rfl) (fun _ _ _ h => h) (by rfl) (by assumption) (fun w hSw => ?_) ?_
         rotate_left
         · (try dsimp only at hSw)
           go_simp
           try with_reducible rfl
         try simp only [Act.put, List.setIfInBounds_toArray, List.set_cons_zero, List.set_cons_succ])
      | (refine held_skip (i := 15) rfl (by kernel_rfl) (by kernel_rfl) (by kernel_rfl) (fun _ _ _ h => h) (by rfl) (by assumption) ?_
         try simp only [Act.put, List.setIfInBounds_toArray, List.set_cons_zero, List.set_cons_succ])
    first
      | (refine held_take (i := 16) (v := ?_) rfl (by kernel_rfl) (by kernel_rfl) (by kernel_rfl) (fun _ _ _ h => h) (by rfl) (by assumption) (fun w hSw => ?_) ?_
         rotate_left
         · (try dsimp only at hSw)
           go_simp
           try with_reducible rfl
         try simp only [Act.put, List.setIfInBounds_toArray, List.set_cons_zero, List.set_cons_succ])
      | (refine held_skip (i := 16) rfl (by kernel_rfl) (by kernel_rfl) (by kernel_rfl) (fun _ _ _ h => h) (by rfl) (by assumption) ?_
         try simp only [Act.put, List.setIfInBounds_toArray, List.set_cons_zero, List.set_cons_succ])
    first
      | (refine held_take (i := 17) (v := ?_) rfl (by kernel_rfl) (by kernel_rfl) (by kernel_rfl) (fun _ _ _ h => h) (by rfl) (by assumption) (fun w hSw => ?_) ?_
         rotate_left
         · (try dsimp only at hSw)
           go_simp
           try with_reducible rfl
         try simp only [Act.put, List.setIfInBounds_toArray, List.set_cons_zero, List.set_cons_succ])
      | (refine held_skip (i := 17) rfl (by kernel_rfl) (by kernel_rfl) (by kernel_rfl) (fun _ _ _ h => h) (by rfl) (by assumption) ?_
         try simp only [Act.put, List.setIfInBounds_toArray, List.set_cons_zero, List.set_cons_succ])
    first
      | (refine held_take (i := 18) (v := ?_) rfl (by kernel_rfl) (by kernel_rfl) (by kernel_rfl) (fun _ _ _ h => h) (by rfl) (by assumption) (fun w hSw => ?_) ?_
         rotate_left
         · (try dsimp only at hSw)
           go_simp
           try with_reducible rfl
         try simp only [Act.put, List.setIfInBounds_toArray, List.set_cons_zero, List.set_cons_succ])
      | (refine held_skip (i := 18) rfl (by kernel_rfl) (by kernel_rfl) (by kernel_rfl) (fun _ _ _ h => h) (by rfl) (by assumption) ?_
         try simp only [Act.put, List.setIfInBounds_toArray, List.set_cons_zero, List.set_cons_succ])
    first
      | (refine held_take (i := 19) (v := ?_) rfl (by kernel_rfl) (by kernel_rfl) (by kernel_rfl) (fun _ _ _ h => h) (by rfl) (by assumption) (fun w hSw => ?_) ?_
         rotate_left
         · (try dsimp only at hSw)
           go_simp
           try with_reducible rfl
         try simp only [Act.put, List.setIfInBounds_toArray, List.set_cons_zero, List.set_cons_succ])
      | (refine held_skip (i := 19) rfl (by kernel_rfl) (by kernel_rfl) (by kernel_rfl) (fun _ _ _ h => h) (by rfl) (by assumption) ?_
         try simp only [Act.put, List.setIfInBounds_toArray, List.set_cons_zero, List.set_cons_succ])
    first
      | (refine held_take (i := 20) (v := ?_) rfl (by kernel_rfl) (by kernel_rfl) (by kernel_rfl) (fun _ _ _ h => h) (by rfl) (by assumption) (fun w hSw => ?_) ?_
         rotate_left
         · (try dsimp only at hSw)
           go_simp
           try with_reducible rfl
         try simp only [Act.put, List.setIfInBounds_toArray, List.set_cons_zero, List.set_cons_succ])
      | (refine held_skip (i := 20) rfl (by kernel_rfl) (by kernel_rfl) (by kernel_rfl) (fun _ _ _ h => h) (by rfl) (by assumption) ?_
         try simp only [Act.put, List.setIfInBounds_toArray, List.set_cons_zero, List.set_cons_succ])
    first
      | (refine held_take (i := 21) (v := ?_) rfl (by kernel_rfl) (by kernel_rfl) (by kernel_rfl) (fun _ _ _ h => h) (by rfl) (by assumption) (fun w hSw => ?_) ?_
         rotate_left
         · (try dsimp only at hSw)
           go_simp
           try with_reducible rfl
         try simp only [Act.put, List.setIfInBounds_toArray, List.set_cons_zero, List.set_cons_succ])
      | (refine held_skip (i := 21) rfl (by kernel_rfl) (by kernel_rfl) (by kernel_rfl) (fun _ _ _ h => h) (by rfl) (by assumption) ?_
         try simp only [Act.put, List.setIfInBounds_toArray, List.set_cons_zero, List.set_cons_succ])
    first
      | (refine held_take (i := 22) (v := ?_) rfl (by kernel_rfl) (by kernel_rfl) (by kernel_rfl) (fun _ _ _ h => h) (by rfl) (by assumption) (fun w hSw => ?_) ?_
         rotate_left
         · (try dsimp only at hSw)
           go_simp
           try with_reducible rfl
         try simp only [Act.put, List.setIfInBounds_toArray, List.set_cons_zero, List.set_cons_succ])
      | (refine held_skip (i := 22) rfl (by kernel_rfl) (by kernel_rfl) (by kernel_rfl) (fun _ _ _ h => h) (by rfl) (by assumption) ?_
         try simp only [Act.put, List.setIfInBounds_toArray, List.set_cons_zero, List.set_cons_succ])
    first
      | (refine held_take (i := 23) (v := ?_) rfl (by kernel_rfl) (by kernel_rfl) (by kernel_rfl) (fun _ _ _ h => h) (by rfl) (by assumption) (fun w hSw => ?_) ?_
         rotate_left
         · (try dsimp only at hSw)
           go_simp
           try with_reducible rfl
         try simp only [Act.put, List.setIfInBounds_toArray, List.set_cons_zero, List.set_cons_succ])
      | (refine held_skip (i := 23) rfl (by kernel_rfl) (by kernel_rfl) (by kernel_rfl) (fun _ _ _ h => h) (by rfl) (by assumption) ?_
         try simp only [Act.put, List.setIfInBounds_toArray, List.set_cons_zero, List.set_cons_succ])
    refine wpAnyH_done (by kernel_rfl) ?_ _
    go_wp2_with fail
    exact HR.out _ hbf
  rw [decide_eq_false hq, Bool.or_false] at HR
  rw [decide_eq_false hq]
  clear hq
  cases b
  · simp only [Bool.false_and] at HR
    first
      | (refine held_take (i := 12) (v := ?_) rfl (by kernel_rfl) (by kernel_rfl) (by kernel_rfl) (fun _ _ _ h => h) (by rfl) (by assumption) (fun w hSw => ?_) ?_
         rotate_left
         · (try dsimp only at hSw)
           go_simp
           try with_reducible rfl
         try simp only [Act.put, List.setIfInBounds_toArray, List.set_cons_zero, List.set_cons_succ])
      | (refine held_skip (i := 12) rfl (by kernel_rfl) (by kernel_rfl) (by kernel_rfl) (fun _ _ _ h => h) (by rfl) (by assumption) ?_
         try simp only [Act.put, List.setIfInBounds_toArray, List.set_cons_zero, List.set_cons_succ])
    first
      | (refine held_take (i := 13) (v := ?_) rfl (by kernel_rfl) (by kernel_rfl) (by kernel_rfl) (fun _ _ _ h => h) (by rfl) (by assumption) (fun w hSw => ?_) ?_
         rotate_left
         · (try dsimp only at hSw)
           go_simp
           try with_reducible rfl
         try simp only [Act.put, List.setIfInBounds_toArray, List.set_cons_zero, List.set_cons_succ])
      | (refine held_skip (i := 13) rfl (by kernel_rfl) (by kernel_rfl) (by kernel_rfl) (fun _ _ _ h => h) (by rfl) (by assumption) ?_
         try simp only [Act.put, List.setIfInBounds_toArray, List.set_cons_zero, List.set_cons_succ])
    first
      | (refine held_take (i := 14) (v := ?_) rfl (by kernel_rfl) (by kernel_rfl) (by kernel_rfl) (fun _ _ _ h => h) (by rfl) (by assumption) (fun w hSw => ?_) ?_
         rotate_left
         · (try dsimp only at hSw)
           go_simp
           try with_reducible rfl
         try simp only [Act.put, List.setIfInBounds_toArray, List.set_cons_zero, List.set_cons_succ])
      | (refine held_skip (i := 14) rfl (by kernel_rfl) (by kernel_rfl) (by kernel_rfl) (fun _ _ _ h => h) (by rfl) (by assumption) ?_
         try simp only [Act.put, List.setIfInBounds_toArray, List.set_cons_zero, List.set_cons_succ])
    first
      | (refine held_take (i := 15) (v := ?_) rfl (by kernel_rfl) (by kernel_rfl) (by kernel_rfl) (fun _ _ _ h => h) (by rfl) (by assumption) (fun w hSw => ?_) ?_
         rotate_left
         · (try dsimp only at hSw)
           go_simp
           try with_reducible rfl
         try simp only [Act.put, List.setIfInBounds_toArray, List.set_cons_zero, List.set_cons_succ])
      | (refine held_skip (i := 15) rfl (by kernel_rfl) (by kernel_rfl) (by kernel_rfl) (fun _ _ _ h => h) (by rfl) (by assumption) ?_
         try simp only [Act.put, List.setIfInBounds_toArray, List.set_cons_zero, List.set_cons_succ])
    first
      | (refine held_take (i := 16) (v := ?_) rfl (by kernel_rfl) (by kernel_rfl) (by kernel_rfl) (fun _ _ _ h => h) (by rfl) (by assumption) (fun w hSw => ?_) ?_
         rotate_left
         · (try dsimp only at hSw)
           go_simp
           try with_reducible rfl
         try simp only [Act.put, List.setIfInBounds_toArray, List.set_cons_zero, List.set_cons_succ])
      | (refine held_skip (i := 16) rfl (by kernel_rfl) (by kernel_rfl) (by kernel_rfl) (fun _ _ _ h => h) (by rfl) (by assumption) ?_
         try simp only [Act.put, List.setIfInBounds_toArray, List.set_cons_zero, List.set_cons_succ])
    first
      | (refine held_take (i := 17) (v := ?_) rfl (by kernel_rfl) (by kernel_rfl) (by kernel_rfl) (fun _ _ _ h => h) (by rfl) (by assumption) (fun w hSw => ?_) ?_
         rotate_left
         · (try dsimp only at hSw)
           go_simp
           try with_reducible rfl
         try simp only [Act.put, List.setIfInBounds_toArray, List.set_cons_zero, List.set_cons_succ])
      | (refine held_skip (i := 17) rfl (by kernel_rfl) (by kernel_rfl) (by kernel_rfl) (fun _ _ _ h => h) (by rfl) (by assumption) ?_
         try simp only [Act.put, List.setIfInBounds_toArray, List.set_cons_zero, List.set_cons_succ])
    first
      | (refine held_take (i := 18) (v := ?_) rfl (by kernel_rfl) (by kernel_rfl) (by kernel_rfl) (fun _ _ _ h => h) (by rfl) (by assumption) (fun w hSw => ?_) ?_
         rotate_left
         · (try dsimp only at hSw)
           go_simp
           try with_reducible rfl
         try simp only [Act.put, List.setIfInBounds_toArray, List.set_cons_zero, List.set_cons_succ])
      | (refine held_skip (i := 18) rfl (by kernel_rfl) (by kernel_rfl) (by kernel_rfl) (fun _ _ _ h => h) (by rfl) (by assumption) ?_
         try simp only [Act.put, List.setIfInBounds_toArray, List.set_cons_zero, List.set_cons_succ])
    first
      | (refine held_take (i := 19) (v := ?_) rfl (by kernel_rfl) (by kernel_rfl) (by kernel_rfl) (fun _ _ _ h => h) (by rfl) (by assumption) (fun w hSw => ?_) ?_
         rotate_left
         · (try dsimp only at hSw)
           go_simp
           try with_reducible rfl
         try simp only [Act.put, List.setIfInBounds_toArray, List.set_cons_zero, List.set_cons_succ])
      | (refine held_skip (i := 19) rfl (by kernel_rfl) (by kernel_rfl) (by kernel_rfl) (fun _ _ _ h => h) (by rfl) (by assumption) ?_
         try simp only [Act.put, List.setIfInBounds_toArray, List.set_cons_zero, List.set_cons_succ])
    first
      | (refine held_take (i := 20) (v := ?_) rfl (by kernel_rfl) (by kernel_rfl) (by kernel_rfl) (fun _ _ _ h => h) (by rfl) (by assumption) (fun w hSw => ?_) ?_
         rotate_left
         · (try dsimp only at hSw)
           go_simp
           try with_reducible rfl
         try simp only [Act.put, List.setIfInBounds_toArray, List.set_cons_zero, List.set_cons_succ])
      | (refine held_skip (i := 20) rfl (by kernel_rfl) (by kernel_rfl) (by kernel_rfl) (fun _ _ _ h => h) (by rfl) (by assumption) ?_
         try simp only [Act.put, List.setIfInBounds_toArray, List.set_cons_zero, List.set_cons_succ])
    first
      | (refine held_take (i := 21) (v := ?_) rfl (by kernel_rfl) (by kernel_rfl) (by kernel_rfl) (fun _ _ _ h => h) (by rfl) (by assumption) (fun w hSw => ?_) ?_
         rotate_left
         · (try dsimp only at hSw)
           go_simp
           try with_reducible rfl
         try simp only [Act.put, List.setIfInBounds_toArray, List.set_cons_zero, List.set_cons_succ])
      | (refine held_skip (i := 21) rfl (by kernel_rfl) (by kernel_rfl) (by kernel_rfl) (fun _ _ _ h => h) (by rfl) (by assumption) ?_
         try simp only [Act.put, List.setIfInBounds_toArray, List.set_cons_zero, List.set_cons_succ])
    first
      | (refine held_take (i := 22) (v := ?_) rfl (by kernel_rfl) (by kernel_rfl) (by kernel_rfl) (fun _ _ _ h => h) (by rfl) (by assumption) (fun w hSw => ?_) ?_
         rotate_left
         · (try dsimp only at hSw)
           go_simp
           try with_reducible rfl
         try simp only [Act.put, List.setIfInBounds_toArray, List.set_cons_zero, List.set_cons_succ])
      | (refine held_skip (i := 22) rfl (by kernel_rfl) (by kernel_rfl) (by kernel_rfl) (fun _ _ _ h => h) (by rfl) (by assumption) ?_
         try simp only [Act.put, List.setIfInBounds_toArray, List.set_cons_zero, List.set_cons_succ])
    first
      | (refine held_take (i := 23) (v := ?_) rfl (by kernel_rfl) (by kernel_rfl) (by kernel_rfl) (fun _ _ _ h => h) (by rfl) (by assumption) (fun w hSw => ?_) ?_
         rotate_left
         · (try dsimp only at hSw)
           go_simp
           try with_reducible rfl
         try simp only [Act.put, List.setIfInBounds_toArray, List.set_cons_zero, List.set_cons_succ])
      | (refine held_skip (i := 23) rfl (by kernel_rfl) (by kernel_rfl) (by kernel_rfl) (fun _ _ _ h => h) (by rfl) (by assumption) ?_
         try simp only [Act.put, List.setIfInBounds_toArray, List.set_cons_zero, List.set_cons_succ])
    refine wpAnyH_done (by kernel_rfl) ?_ _
    go_wp2_with fail
    exact HR.out _ hbf
  simp only [Bool.true_and] at HR
  first
    | (refine held_take (i := 12) (v := ?_) rfl (by kernel_rfl) (by kernel_rfl) (by kernel_rfl) (fun _ _ _ h => h) (by rfl) (by assumption) (fun w hSw => ?_) ?_
       rotate_left
       · (try dsimp only at hSw)
         go_simp
         try with_reducible rfl
       try simp only [Act.put, List.setIfInBounds_toArray, List.set_cons_zero, List.set_cons_succ])
    | (refine held_skip (i := 12) rfl (by kernel_rfl) (by kernel_rfl) (by kernel_rfl) (fun _ _ _ h => h) (by rfl) (by assumption) ?_
       try simp only [Act.put, List.setIfInBounds_toArray, List.set_cons_zero, List.set_cons_succ])
  first
    | (refine held_take (i := 13) (v := ?_) rfl (by kernel_rfl) (by kernel_rfl) (by kernel_rfl) (fun _ _ _ h => h) (by rfl) (by assumption) (fun w hSw => ?_) ?_
       rotate_left
       · (try dsimp only at hSw)
         go_simp
         try with_reducible rfl
       try simp only [Act.put, List.setIfInBounds_toArray, List.set_cons_zero, List.set_cons_succ])
    | (refine held_skip (i := 13) rfl (by kernel_rfl) (by kernel_rfl) (by kernel_rfl) (fun _ _ _ h => h) (by rfl) (by assumption) ?_
       try simp only [Act.put, List.setIfInBounds_toArray, List.set_cons_zero, List.set_cons_succ])
  first
    | (refine held_take (i := 14) (v := ?_) rfl (by kernel_rfl) (by kernel_rfl) (by kernel_rfl) (fun _ _ _ h => h) (by rfl) (by assumption) (fun w hSw => ?_) ?_
       rotate_left
       · (try dsimp only at hSw)
         go_simp
         try with_reducible rfl
       try simp only [Act.put, List.setIfInBounds_toArray, List.set_cons_zero, List.set_cons_succ])
    | (refine held_skip (i := 14) rfl (by kernel_rfl) (by kernel_rfl) (by kernel_rfl) (fun _ _ _ h => h) (by rfl) (by assumption) ?_
       try simp only [Act.put, List.setIfInBounds_toArray, List.set_cons_zero, List.set_cons_succ])
  first
    | (refine held_take (i := 15) (v := ?_) rfl (by kernel_rfl) (by kernel_rfl) (by kernel_rfl) (fun _ _ _ h => h) (by rfl) (by assumption) (fun w hSw => ?_) ?_
       rotate_left
       · (try dsimp only at hSw)
         go_simp
         try with_reducible rfl
       try simp only [Act.put, List.setIfInBounds_toArray, List.set_cons_zero, List.set_cons_succ])
    | (refine held_skip (i := 15) rfl (by kernel_rfl) (by kernel_rfl) (by kernel_rfl) (fun _ _ _ h => h) (by rfl) (by assumption) ?_
       try simp only [Act.put, List.setIfInBounds_toArray, List.set_cons_zero, List.set_cons_succ])
  first
    | (refine held_take (i := 16) (v := ?_) rfl (by kernel_rfl) (by kernel_rfl) (by kernel_rfl) (fun _ _ _ h => h) (by rfl) (by assumption) (fun w hSw => ?_) ?_
       rotate_left
       · (try dsimp only at hSw)
         go_simp
         try with_reducible rfl
       try simp only [Act.put, List.setIfInBounds_toArray, List.set_cons_zero, List.set_cons_succ])
    | (refine held_skip (i := 16) rfl (by kernel_rfl) (by kernel_rfl) (by kernel_rfl) (fun _ _ _ h => h) (by rfl) (by assumption) ?_
       try simp only [Act.put, List.setIfInBounds_toArray, List.set_cons_zero, List.set_cons_succ])
  first
    | (refine held_take (i := 17) (v := ?_) rfl (by kernel_rfl) (by kernel_rfl) (by kernel_rfl) (fun _ _ _ h => h) (by rfl) (by assumption) (fun w hSw => ?_) ?_
       rotate_left
       · (try dsimp only at hSw)
         go_simp
         try with_reducible rfl
       try simp only [Act.put, List.setIfInBounds_toArray, List.set_cons_zero, List.set_cons_succ])
    | (refine held_skip (i := 17) rfl (by kernel_rfl) (by kernel_rfl) (by kernel_rfl) (fun _ _ _ h => h) (by rfl) (by assumption) ?_
       try simp only [Act.put, List.setIfInBounds_toArray, List.set_cons_zero, List.set_cons_succ])
  first
    | (refine held_take (i := 18) (v := ?_) rfl (by kernel_rfl) (by kernel_rfl) (by kernel_rfl) (fun _ _ _ h => h) (by rfl) (by assumption) (fun w hSw => ?_) ?_
       rotate_left
       · (try dsimp only at hSw)
         go_simp
         try with_reducible rfl
       try simp only [Act.put, List.setIfInBounds_toArray, List.set_cons_zero, List.set_cons_succ])
    | (refine held_skip (i := 18) rfl (by kernel_rfl) (by kernel_rfl) (by kernel_rfl) (fun _ _ _ h => h) (by rfl) (by assumption) ?_
       try simp only [Act.put, List.setIfInBounds_toArray, List.set_cons_zero, List.set_cons_succ])
  refine held_take (i := 19) (v := .bool (decide (s = k) && decide (n = m))) rfl (by kernel_rfl) (by kernel_rfl) (by kernel_rfl) (fun _ _ _ h => h) (by rfl) (by assumption) (fun w hSw => ?_) ?_
  · (try dsimp only at hSw)
    go_simp
    exact if_two s k n m w
  try simp only [Act.put, List.setIfInBounds_toArray, List.set_cons_zero, List.set_cons_succ]
  first
    | (refine held_take (i := 20) (v := ?_) rfl (by kernel_rfl) (by kernel_rfl) (by kernel_rfl) (fun _ _ _ h => h) (by rfl) (by assumption) (fun w hSw => ?_) ?_
       rotate_left
       · (try dsimp only at hSw)
         go_simp
         try with_reducible rfl
       try simp only [Act.put, List.setIfInBounds_toArray, List.set_cons_zero, List.set_cons_succ])
    | (refine held_skip (i := 20) rfl (by kernel_rfl) (by kernel_rfl) (by kernel_rfl) (fun _ _ _ h => h) (by rfl) (by assumption) ?_
       try simp only [Act.put, List.setIfInBounds_toArray, List.set_cons_zero, List.set_cons_succ])
  first
    | (refine held_take (i := 21) (v := ?_) rfl (by kernel_rfl) (by kernel_rfl) (by kernel_rfl) (fun _ _ _ h => h) (by rfl) (by assumption) (fun w hSw => ?_) ?_
       rotate_left
       · (try dsimp only at hSw)
         go_simp
         try with_reducible rfl
       try simp only [Act.put, List.setIfInBounds_toArray, List.set_cons_zero, List.set_cons_succ])
    | (refine held_skip (i := 21) rfl (by kernel_rfl) (by kernel_rfl) (by kernel_rfl) (fun _ _ _ h => h) (by rfl) (by assumption) ?_
       try simp only [Act.put, List.setIfInBounds_toArray, List.set_cons_zero, List.set_cons_succ])
  first
    | (refine held_take (i := 22) (v := ?_) rfl (by kernel_rfl) (by kernel_rfl) (by kernel_rfl) (fun _ _ _ h => h) (by rfl) (by assumption) (fun w hSw => ?_) ?_
       rotate_left
       · (try dsimp only at hSw)
         go_simp
         try with_reducible rfl
       try simp only [Act.put, List.setIfInBounds_toArray, List.set_cons_zero, List.set_cons_succ])
    | (refine held_skip (i := 22) rfl (by kernel_rfl) (by kernel_rfl) (by kernel_rfl) (fun _ _ _ h => h) (by rfl) (by assumption) ?_
       try simp only [Act.put, List.setIfInBounds_toArray, List.set_cons_zero, List.set_cons_succ])
  first
    | (refine held_take (i := 23) (v := ?_) rfl (by kernel_rfl) (by kernel_rfl) (by kernel_rfl) (fun _ _ _ h => h) (by rfl) (by assumption) (fun w hSw => ?_) ?_
       rotate_left
       · (try dsimp only at hSw)
         go_simp
         try with_reducible rfl
       try simp only [Act.put, List.setIfInBounds_toArray, List.set_cons_zero, List.set_cons_succ])
    | (refine held_skip (i := 23) rfl (by kernel_rfl) (by kernel_rfl) (by kernel_rfl) (fun _ _ _ h => h) (by rfl) (by assumption) ?_
       try simp only [Act.put, List.setIfInBounds_toArray, List.set_cons_zero, List.set_cons_succ])
  refine wpAnyH_done (by kernel_rfl) ?_ _
  go_wp2_with fail
  exact HR.out _ hbf
end
end Go.Proofs.Ytgjiedjfplbipaa
