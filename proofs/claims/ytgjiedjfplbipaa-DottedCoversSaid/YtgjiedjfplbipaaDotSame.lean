import Derived.Test.YtgjiedjfplbipaaDotRight
import Derived.Test.YtgjiedjfplbipaaVecPlain
/- dotted.Same, dotted.Plain; spenceref12.Same, Great, Covers. -/
namespace Go.Proofs.Ytgjiedjfplbipaa
open Go.RowKit Go.Lib
section
def sameK (v : List En) (b : Bool) (s : ByteArray) (n : Int) (v2 : List En) (b2 : Bool) (s2 : ByteArray) (n2 : Int) : Bool := (decide (v = v2) && (b == b2)) && (decide (s = s2) && decide (n = n2))
set_option maxHeartbeats 4000000 in
set_option maxRecDepth 100000 in
theorem dotted_Same (v v2 : List En) (A A2 : Option Addr) (c c2 : Nat) (b b2 : Bool) (s s2 : ByteArray) (n n2 : Int) (w : World) (h1 : Row w A (flat enC v)) (h2 : Row w A2 (flat enC v2)) (hl1 : v.length ≤ 140737488351232) {R : Ending → World → Prop}
    (hR : ∀ w', Below w.heap.size w w' → R (.returned (.bool (sameK v b s n v2 b2 s2 n2))) w') :
    Calls Try.prog 64 #[.agg #[.slice A v.length c, .bool b, .string s, .int .u64 n], .agg #[.slice A2 v2.length c2, .bool b2, .string s2, .int .u64 n2]] w R := by
  have HR := Lib.hid hR
  clear hR
  unfold sameK at HR
  go_enter Try.func64, Try.ntmps64
  go_upto_region 1 with fail
  have hbxk := Blk.new w 84 #[.slice A v.length c, .bool b, .string s, .int .u64 n]
  have hbxx := (Below.refl w.heap.size w).alloc (Nat.le_refl _) (.cells #[.slice A v.length c, .bool b, .string s, .int .u64 n] 84)
  have hsz : (w.alloc (.cells #[.slice A v.length c, .bool b, .string s, .int .u64 n] 84)).heap.size = w.heap.size + 1 := by simp
  generalize w.alloc (.cells #[.slice A v.length c, .bool b, .string s, .int .u64 n] 84) = wa at *
  have hbyk := Blk.new wa 84 #[.slice A2 v2.length c2, .bool b2, .string s2, .int .u64 n2]
  rw [hsz] at hbyk
  replace hbxk := hbxk.alloc (.cells #[.slice A2 v2.length c2, .bool b2, .string s2, .int .u64 n2] 84)
  replace hbxx := hbxx.alloc hbxx.size (.cells #[.slice A2 v2.length c2, .bool b2, .string s2, .int .u64 n2] 84)
  generalize wa.alloc (.cells #[.slice A2 v2.length c2, .bool b2, .string s2, .int .u64 n2] 84) = wb at *
  have q0 := hbxk.cell 0
  have q1 := hbxk.cell 1
  have q2 := hbxk.cell 2
  have q3 := hbxk.cell 3
  have r0 := hbyk.cell 0
  have r1 := hbyk.cell 1
  have r2 := hbyk.cell 2
  have r3 := hbyk.cell 3
  dsimp at q0 q1 q2 q3 r0 r1 r2 r3
  obtain ⟨bx, hbxe⟩ : ∃ b, w.heap.size = b := ⟨_, rfl⟩
  obtain ⟨bY, hbye⟩ : ∃ b, w.heap.size + 1 = b := ⟨_, rfl⟩
  rw [hbye] at r0 r1 r2 r3 ⊢
  rw [hbxe] at q0 q1 q2 q3 ⊢
  clear hsz hbxe hbye hbxk hbyk
  have heq := fun R => slices_Equal_Entry v v2 A A2 c c2 wb (h1.below hbxx (Nat.le_refl _)) (h2.below hbxx (Nat.le_refl _)) hl1 (R := R)
  clear h1 h2
  generalize decide (v = v2) = z at *
  go_wp2_with fail
  refine heq _ ?_
  rintro w' m rfl
  replace q0 : (wb.drewN m).cell? _ = _ := q0
  replace q1 : (wb.drewN m).cell? _ = _ := q1
  replace q2 : (wb.drewN m).cell? _ = _ := q2
  replace q3 : (wb.drewN m).cell? _ = _ := q3
  replace r0 : (wb.drewN m).cell? _ = _ := r0
  replace r1 : (wb.drewN m).cell? _ = _ := r1
  replace r2 : (wb.drewN m).cell? _ = _ := r2
  replace r3 : (wb.drewN m).cell? _ = _ := r3
  replace hbxx := below_drewN hbxx m
  clear heq
  generalize wb.drewN m = wd at *
  cases z
  · simp only [Bool.false_and] at HR
    go_wp2_with fail
    exact HR.out _ hbxx
  simp only [Bool.true_and] at HR
  by_cases hb : b = b2
  rotate_left
  · have hbb : (b == b2) = false := by simpa using hb
    rw [hbb] at HR
    simp only [Bool.false_and] at HR
    clear hbb
    cases b <;> cases b2 <;> first | exact absurd rfl hb | (clear hb; go_wp2_with fail; exact HR.out _ hbxx)
  subst hb
  rw [show (b == b) = true from by simp] at HR
  simp only [Bool.true_and] at HR
  by_cases hs : s = s2
  · subst hs
    rw [decide_eq_true rfl] at HR
    simp only [Bool.true_and] at HR
    by_cases hn : n = n2
    · subst hn
      rw [decide_eq_true rfl] at HR
      go_wp2_with fail
      exact HR.out _ hbxx
    · have hnb : (n == n2) = false := by simpa using hn
      rw [decide_eq_false hn] at HR
      go_wp2_with fail
      exact HR.out _ hbxx
  · have hsb : (s.toList == s2.toList) = false := by rw [toList_beq]; exact decide_eq_false hs
    rw [decide_eq_false hs] at HR
    simp only [Bool.false_and] at HR
    go_wp2_with fail
    exact HR.out _ hbxx
set_option maxHeartbeats 4000000 in
set_option maxRecDepth 100000 in
theorem ref12_Same (v v2 : List En) (A A2 : Option Addr) (c c2 : Nat) (b b2 : Bool) (s s2 : ByteArray) (n n2 : Int) (w : World) (h1 : Row w A (flat enC v)) (h2 : Row w A2 (flat enC v2)) (hl1 : v.length ≤ 140737488351232) {R : Ending → World → Prop}
    (hR : ∀ w', Below w.heap.size w w' → R (.returned (.bool (sameK v b s n v2 b2 s2 n2))) w') :
    Calls Try.prog 65 #[.agg #[.slice A v.length c, .bool b, .string s, .int .u64 n], .agg #[.slice A2 v2.length c2, .bool b2, .string s2, .int .u64 n2]] w R := by
  have HR := Lib.hid hR
  clear hR
  unfold sameK at HR
  go_enter Try.func65, Try.ntmps65
  go_upto_region 1 with fail
  have hbxk := Blk.new w 84 #[.slice A v.length c, .bool b, .string s, .int .u64 n]
  have hbxx := (Below.refl w.heap.size w).alloc (Nat.le_refl _) (.cells #[.slice A v.length c, .bool b, .string s, .int .u64 n] 84)
  have hsz : (w.alloc (.cells #[.slice A v.length c, .bool b, .string s, .int .u64 n] 84)).heap.size = w.heap.size + 1 := by simp
  generalize w.alloc (.cells #[.slice A v.length c, .bool b, .string s, .int .u64 n] 84) = wa at *
  have hbyk := Blk.new wa 84 #[.slice A2 v2.length c2, .bool b2, .string s2, .int .u64 n2]
  rw [hsz] at hbyk
  replace hbxk := hbxk.alloc (.cells #[.slice A2 v2.length c2, .bool b2, .string s2, .int .u64 n2] 84)
  replace hbxx := hbxx.alloc hbxx.size (.cells #[.slice A2 v2.length c2, .bool b2, .string s2, .int .u64 n2] 84)
  generalize wa.alloc (.cells #[.slice A2 v2.length c2, .bool b2, .string s2, .int .u64 n2] 84) = wb at *
  have q0 := hbxk.cell 0
  have q1 := hbxk.cell 1
  have q2 := hbxk.cell 2
  have q3 := hbxk.cell 3
  have r0 := hbyk.cell 0
  have r1 := hbyk.cell 1
  have r2 := hbyk.cell 2
  have r3 := hbyk.cell 3
  dsimp at q0 q1 q2 q3 r0 r1 r2 r3
  obtain ⟨bx, hbxe⟩ : ∃ b, w.heap.size = b := ⟨_, rfl⟩
  obtain ⟨bY, hbye⟩ : ∃ b, w.heap.size + 1 = b := ⟨_, rfl⟩
  rw [hbye] at r0 r1 r2 r3 ⊢
  rw [hbxe] at q0 q1 q2 q3 ⊢
  clear hsz hbxe hbye hbxk hbyk
  have heq := fun R => ref10_Same v v2 A A2 c c2 wb (h1.below hbxx (Nat.le_refl _)) (h2.below hbxx (Nat.le_refl _)) hl1 (R := R)
  clear h1 h2
  generalize decide (v = v2) = z at *
  go_wp2_with fail
  refine heq _ ?_
  rintro w' m rfl
  replace q0 : (wb.drewN m).cell? _ = _ := q0
  replace q1 : (wb.drewN m).cell? _ = _ := q1
  replace q2 : (wb.drewN m).cell? _ = _ := q2
  replace q3 : (wb.drewN m).cell? _ = _ := q3
  replace r0 : (wb.drewN m).cell? _ = _ := r0
  replace r1 : (wb.drewN m).cell? _ = _ := r1
  replace r2 : (wb.drewN m).cell? _ = _ := r2
  replace r3 : (wb.drewN m).cell? _ = _ := r3
  replace hbxx := below_drewN hbxx m
  clear heq
  generalize wb.drewN m = wd at *
  cases z
  · simp only [Bool.false_and] at HR
    go_wp2_with fail
    exact HR.out _ hbxx
  simp only [Bool.true_and] at HR
  by_cases hb : b = b2
  rotate_left
  · have hbb : (b == b2) = false := by simpa using hb
    rw [hbb] at HR
    simp only [Bool.false_and] at HR
    clear hbb
    cases b <;> cases b2 <;> first | exact absurd rfl hb | (clear hb; go_wp2_with fail; exact HR.out _ hbxx)
  subst hb
  rw [show (b == b) = true from by simp] at HR
  simp only [Bool.true_and] at HR
  by_cases hs : s = s2
  · subst hs
    rw [decide_eq_true rfl] at HR
    simp only [Bool.true_and] at HR
    by_cases hn : n = n2
    · subst hn
      rw [decide_eq_true rfl] at HR
      go_wp2_with fail
      exact HR.out _ hbxx
    · have hnb : (n == n2) = false := by simpa using hn
      rw [decide_eq_false hn] at HR
      go_wp2_with fail
      exact HR.out _ hbxx
  · have hsb : (s.toList == s2.toList) = false := by rw [toList_beq]; exact decide_eq_false hs
    rw [decide_eq_false hs] at HR
    simp only [Bool.false_and] at HR
    go_wp2_with fail
    exact HR.out _ hbxx
set_option maxRecDepth 100000 in
theorem ref12_Great (v : List En) (A : Option Addr) (c : Nat) (b : Bool) (s : ByteArray) (n : Int) (w : World) (h : Row w A (flat enC v)) {R : Ending → World → Prop}
    (hR : ∀ z w', Below w.heap.size w w' → (z = false → v.length ≤ 100 ∧ s.size ≤ 100) → R (.returned (.bool z)) w') :
    Calls Try.prog 55 #[.agg #[.slice A v.length c, .bool b, .string s, .int .u64 n]] w R := by
  have HR := Lib.hid hR
  clear hR
  go_enter Try.func55, Try.ntmps55
  go_upto_region 1 with fail
  have hbxk := Blk.new w 84 #[.slice A v.length c, .bool b, .string s, .int .u64 n]
  have hbxx := (Below.refl w.heap.size w).alloc (Nat.le_refl _) (.cells #[.slice A v.length c, .bool b, .string s, .int .u64 n] 84)
  generalize w.alloc (.cells #[.slice A v.length c, .bool b, .string s, .int .u64 n] 84) = wa at *
  have q0 := hbxk.cell 0
  have q1 := hbxk.cell 1
  have q2 := hbxk.cell 2
  have q3 := hbxk.cell 3
  dsimp at q0 q1 q2 q3
  obtain ⟨bx, hbxe⟩ : ∃ b, w.heap.size = b := ⟨_, rfl⟩
  rw [hbxe] at q0 q1 q2 q3 ⊢
  have HBX := Lib.hid hbxe
  clear hbxe hbxk
  go_wp2_with fail
  refine ref10_Great v A c wa (h.below hbxx (Nat.le_refl _)) ?_
  intro g hbd
  cases g
  rotate_left
  · go_wp2_with fail
    exact HR.out true _ hbxx (fun e => by cases e)
  obtain ⟨hv, _⟩ := hbd rfl
  clear hbd
  by_cases h1 : 100 < s.size
  · have e1 : (100 : Int) < (s.size : Int) := by omega
    have e2 : decide ((100 : Int) < (s.size : Int)) = true := decide_eq_true e1
    go_wp2_with fail
    exact HR.out true _ hbxx (fun e => by cases e)
  · have e1 : ¬ (100 : Int) < (s.size : Int) := by omega
    have e2 : decide ((100 : Int) < (s.size : Int)) = false := decide_eq_false e1
    have HV := Lib.hid hv
    go_wp2_with fail
    exact HR.out false _ hbxx (fun _ => ⟨HV.out, by omega⟩)
theorem enC_oneAll (x : En) : ∀ u ∈ enC x, u.oneCell' = true := enC_one x
set_option maxHeartbeats 1000000 in
set_option maxRecDepth 100000 in
theorem slices_Clone_Entry (l : List En) (A : Option Addr) (c : Nat) (w : World) (h : Row w A (flat enC l)) (hl : l.length ≤ 1000000) {R : Ending → World → Prop}
    (hR : ∀ A' c' w', Own w' w.heap.size 82 2 enC (.slice A' l.length c') l → Below w.heap.size w w' → R (.returned (.slice A' l.length c')) w') :
    Calls Try.prog 96 #[.slice A l.length c] w R := by
  obtain ⟨i0, hi0, hI0, hI1, hI2⟩ := info_parts info_en
  have HR := Lib.hid hR
  clear hR
  have hq : ∀ (W : World) (a : Option Addr) (n c n' c' : Nat), (binOp .eql 61 (.slice a n c) (.slice none n' c')).run Try.prog W = .ok (.bool a.isNone) W := fun W a n c n' c' => Go.Lib.run_eql_slice_nil W _ _ a n c n' c' Try.underlying61
  cases A with
  | none =>
    have hln : l = [] := by
      rcases h with h | ⟨_, _, h, _⟩
      · cases l with
        | nil => rfl
        | cons x l => simp [flat, enC] at h
      · cases h
    subst hln
    go_enter Try.func96, Try.ntmps96
    go_wp2_with fail
    exact HR.out none 0 _ (Own.nil _ _ _ _) (Below.refl _ _)
  | some ad =>
    go_enter Try.func96, Try.ntmps96
    go_wp2_with (first
      | (at_builtin; refine wpList_append_list rfl _ _ _ (by rfl) w.heap.size 82 i0 _ 2 24 Try.underlying61 hi0 hI0 hI1 hI2 rfl (by decide) enC enC_len enC_oneAll (.slice (some ⟨w.heap.size, 0, none⟩) 0 0) [] l (by rfl) (World.ownsRow_made w #[] 0 (Nat.le_refl _) (Nat.zero_le _) rfl) (some ad) c (by rfl) (h.alloc _) (by simp only [List.length_nil]; unfold maxLen; omega) (by simp only [List.length_nil]; omega) (by simp) ?_
         intro A9 c9 w9 hown9 hx9 hst9))
    rw [List.nil_append] at hown9
    exact HR.out A9 c9 w9 hown9 (below_ext ((Below.refl w.heap.size w).alloc (Nat.le_refl _) _) (Nat.le_refl _) hx9 (fun b e => by simp [Value.ownBlock] at e; omega))
theorem cells4 (w : World) (r : Nat) (a b c d : Value) : Ext (· = r) w ((((w.setCell ⟨r, 0, none⟩ a).setCell ⟨r, 1, none⟩ b).setCell ⟨r, 2, none⟩ c).setCell ⟨r, 3, none⟩ d) :=
  (((Ext.self w r 0 a).setCell (p := ⟨r, 1, none⟩) (fun _ => rfl) b).setCell (p := ⟨r, 2, none⟩) (fun _ => rfl) c).setCell (p := ⟨r, 3, none⟩) (fun _ => rfl) d
set_option maxRecDepth 100000 in
theorem dotted_Plain (l : List En) (A : Option Addr) (c : Nat) (w : World) (h : Row w A (flat enC l)) (hl : l.length ≤ 1000000) {R : Ending → World → Prop}
    (hR : ∀ A' c' w', Row w' A' (flat enC l) → Below w.heap.size w w' → R (.returned (.agg #[.slice A' l.length c', .bool false, .string ⟨#[]⟩, .int .u64 0])) w') :
    Calls Try.prog 62 #[.slice A l.length c] w R := by
  have HR := Lib.hid hR
  clear hR
  go_enter Try.func62, Try.ntmps62
  go_upto_region 1 with fail
  go_wp2_with fail
  refine slices_Clone_Entry l A c _ (h.alloc _) hl ?_
  intro A' c' w1 hown hb1
  have hbk := (Blk.new w 84 #[.slice none 0 0, .bool false, .string ⟨#[]⟩, .int .u64 0]).below hb1 (by simp)
  have hbw := ((Below.refl w.heap.size w).alloc (Nat.le_refl _) (.cells #[.slice none 0 0, .bool false, .string ⟨#[]⟩, .int .u64 0] 84))
  replace hbw := hbw.trans (hb1.mono hbw.size)
  clear hb1
  have q0 := hbk.cell 0
  have q1 := hbk.cell 1
  have q2 := hbk.cell 2
  have q3 := hbk.cell 3
  have f0 := hbk.frozen 0
  have f1 := hbk.frozen 1
  have f2 := hbk.frozen 2
  have f3 := hbk.frozen 3
  dsimp at q0 q1 q2 q3
  have hge : w.heap.size ≤ w.heap.size := Nat.le_refl _
  obtain ⟨bx, hbe⟩ : ∃ b, w.heap.size = b := ⟨_, rfl⟩
  rw [hbe] at q0 q1 q2 q3 f0 f1 f2 f3 hbk ⊢
  have HBE := Lib.hid hbe
  clear hbe
  go_wp2_with fail
  refine bodyPost_ret (v := .agg #[.slice A' l.length c', .bool false, .string ⟨#[]⟩, .int .u64 0]) (by simp [results, go_sem, q0, q1, q2, q3]) rfl ?_
  have hset := cells4 w1 bx (.slice A' l.length c') (.bool false) (.string ⟨#[]⟩) (.int .u64 0)
  have hlt := hbk.lt
  exact HR.out A' c' _ ((Row.of_own hown).ext hset (fun ad e _ => fun e2 => by
    have h1 := (hown.lt ad.block (by rw [e]; rfl)).1
    have h2 := HBE.out
    simp at h1
    omega)) (below_self hbw hge hset (Nat.le_of_eq HBE.out))
end
end Go.Proofs.Ytgjiedjfplbipaa
/- spenceref12.Covers. -/
namespace Go.Proofs.Ytgjiedjfplbipaa
open Go.RowKit Go.Lib
section
theorem cnt_up {v : List En} (h : ∀ x ∈ v, wfE x) (k : ByteArray) : 0 ≤ cntR k v ∧ cntR k v ≤ 18446744073709551615 := by
  have hb : ∀ {z : Int}, (Lit.int .u64 z).wf = true → 0 ≤ z ∧ z ≤ 18446744073709551615 := fun {z} hz => by
    unfold Lit.wf at hz
    rw [Bool.and_eq_true] at hz
    exact ⟨of_decide_eq_true hz.1, of_decide_eq_true hz.2⟩
  induction v with
  | nil => exact ⟨Int.le_refl _, (by decide : (0 : Int) ≤ 18446744073709551615)⟩
  | cons x l ih =>
    rw [cntR]
    split
    · exact hb (h x (by simp))
    · exact ih (fun y hy => h y (List.mem_cons_of_mem _ hy))
/-- One more, as the program's own numbers have it. -/
def oneMore (q : Int) : Int := IntKind.u64.wrap (q + 1)
theorem oneMore_lt {q : Int} (h0 : 0 ≤ q) (h : q < 18446744073709551615) : oneMore q = q + 1 := by unfold oneMore; rw [IntKind.wrap_u64]; omega
theorem oneMore_max : oneMore 18446744073709551615 = 0 := by decide
/-- How many events of an actor a clock knows without a gap. -/
def haveR (b e : Bool) (n q : Int) : Int := if (b && e && decide (n = oneMore q)) = true then oneMore q else q
theorem cov_have {v : List En} {b : Bool} {s k : ByteArray} {n m : Int} (hq : 0 ≤ cntR k v ∧ cntR k v ≤ 18446744073709551615) (hn : b = true → 1 ≤ n) (hm : posE (k, m)) :
    covX v b s n (k, m) = !decide (haveR b (decide (s = k)) n (cntR k v) < m) := by
  obtain ⟨hm1, hm2⟩ := hm
  dsimp only at hm1 hm2
  unfold covX knowsR haveR
  dsimp only
  generalize cntR k v = q at *
  obtain ⟨q0, q1⟩ := hq
  by_cases hx : q = 18446744073709551615
  · subst hx
    rw [oneMore_max]
    have h1 : ¬ (18446744073709551615 : Int) < m - 1 := by omega
    have h2 : m ≤ (18446744073709551615 : Int) := hm2
    have h3 : m ≠ 0 := by omega
    have h4 : ¬ (18446744073709551615 : Int) < m := by omega
    have h5 : (b && decide (s = k) && decide (n = 0)) = false := by
      cases b
      · rfl
      · have := hn rfl
        rw [decide_eq_false (show ¬ n = 0 by omega), Bool.and_false]
    rw [h5, decide_eq_false h1, decide_eq_true h2, decide_eq_true h3]
    simp [h4]
  · rw [oneMore_lt q0 (by omega)]
    cases b
    · by_cases h : m ≤ q
      · simp [decide_eq_true h, show ¬ q < m - 1 by omega, show ¬ q < m by omega, show m ≠ 0 by omega]
      · simp [decide_eq_false h, show q < m by omega]
    · by_cases hs : s = k
      · by_cases h : n = q + 1
        · subst h
          by_cases h : m ≤ q + 1
          · by_cases h2 : m = q + 1
            · simp [hs, h2]
              omega
            · simp [hs, show ¬ q < m - 1 by omega, show ¬ q + 1 < m by omega, show m ≠ 0 by omega, show m ≤ q by omega]
          · simp [hs, show q < m - 1 by omega, show q + 1 < m by omega]
        · by_cases h3 : m ≤ q
          · simp [h, h3, show ¬ q < m - 1 by omega, show ¬ q < m by omega, show m ≠ 0 by omega]
          · by_cases h4 : n = m
            · subst h4
              simp [h, hs, show q < n by omega]
              omega
            · simp [h, h3, h4, show q < m by omega]
      · by_cases h : m ≤ q
        · simp [hs, h, show ¬ q < m - 1 by omega, show ¬ q < m by omega, show m ≠ 0 by omega]
        · simp [hs, h, show q < m by omega]
set_option maxHeartbeats 4000000 in
set_option maxRecDepth 100000 in
theorem ref12_Covers (v v2 : List En) (A A2 : Option Addr) (c c2 : Nat) (b b2 : Bool) (s s2 : ByteArray) (n n2 : Int) (w : World) (h1 : Row w A (flat enC v)) (h2 : Row w A2 (flat enC v2)) (hl1 : v.length ≤ 140737488351232) (hl2 : v2.length ≤ 1000000)
    (hp : ∀ x ∈ v2, posE x) (hw : ∀ x ∈ v, wfE x) (hn : b = true → 1 ≤ n) {R : Ending → World → Prop}
    (hR : ∀ w', Below w.heap.size w w' → R (.returned (.bool (coversR v b s n v2 b2 s2 n2))) w') :
    Calls Try.prog 67 #[.agg #[.slice A v.length c, .bool b, .string s, .int .u64 n], .agg #[.slice A2 v2.length c2, .bool b2, .string s2, .int .u64 n2]] w R := by
  have HR := Lib.hid hR
  have HP := Lib.hid hp
  have HW := Lib.hid hw
  have HN := Lib.hid hn
  clear hR hp hw hn
  have hl0 : (0 : Int) ≤ (v2.length : Int) := Int.natCast_nonneg _
  unfold coversR at HR
  go_enter Try.func67, Try.ntmps67
  go_upto_region 1 with fail
  have hbxk := Blk.new w 84 #[.slice A v.length c, .bool b, .string s, .int .u64 n]
  have hbxx := (Below.refl w.heap.size w).alloc (Nat.le_refl _) (.cells #[.slice A v.length c, .bool b, .string s, .int .u64 n] 84)
  have hsz : (w.alloc (.cells #[.slice A v.length c, .bool b, .string s, .int .u64 n] 84)).heap.size = w.heap.size + 1 := by simp
  generalize w.alloc (.cells #[.slice A v.length c, .bool b, .string s, .int .u64 n] 84) = wa at *
  have hbyk := Blk.new wa 84 #[.slice A2 v2.length c2, .bool b2, .string s2, .int .u64 n2]
  rw [hsz] at hbyk
  replace hbxk := hbxk.alloc (.cells #[.slice A2 v2.length c2, .bool b2, .string s2, .int .u64 n2] 84)
  replace hbxx := hbxx.alloc hbxx.size (.cells #[.slice A2 v2.length c2, .bool b2, .string s2, .int .u64 n2] 84)
  generalize wa.alloc (.cells #[.slice A2 v2.length c2, .bool b2, .string s2, .int .u64 n2] 84) = wb at *
  have q0 := hbxk.cell 0
  have q1 := hbxk.cell 1
  have q2 := hbxk.cell 2
  have q3 := hbxk.cell 3
  have r0 := hbyk.cell 0
  have r1 := hbyk.cell 1
  have r2 := hbyk.cell 2
  have r3 := hbyk.cell 3
  dsimp at q0 q1 q2 q3 r0 r1 r2 r3
  obtain ⟨bx, hbxe⟩ : ∃ b, w.heap.size = b := ⟨_, rfl⟩
  obtain ⟨bY, hbye⟩ : ∃ b, w.heap.size + 1 = b := ⟨_, rfl⟩
  rw [hbye] at r0 r1 r2 r3 ⊢
  rw [hbxe] at q0 q1 q2 q3 ⊢
  clear hsz hbxe hbye hbxk hbyk
  replace h1 := h1.below hbxx (Nat.le_refl _)
  replace h2 := h2.below hbxx (Nat.le_refl _)
  have hkn := fun R => ref12_Knows v A c b s n s2 n2 wb h1 hl1 (R := R)
  generalize knowsR v b s n s2 n2 = y at *
  obtain ⟨z, hz⟩ : ∃ z, covL v b s n v2 = z := ⟨_, rfl⟩
  rw [hz] at HR
  have HV := Lib.hid (show covL v b s n (v2.drop 0) = z by rw [List.drop_zero]; exact hz)
  clear hz
  go_cut [20] (fun s20 wx => s20 = .bool (b2 && !y) ∧ Below wb.heap.size wb wx)
  case first =>
    cases b2
    · go_wp2_with fail
      go_meet
      exact ⟨rfl, Below.refl _ _⟩
    · go_wp2_with fail
      refine hkn _ ?_
      intro w2 hb2
      go_wp2_with fail
      go_meet
      exact ⟨rfl, hb2⟩
  case rest =>
  obtain ⟨rfl, hbc⟩ := hcut
  replace h1 := h1.below hbc (Nat.le_refl _)
  replace h2 := h2.below hbc (Nat.le_refl _)
  replace q0 := cell_below hbc q0
  replace q1 := cell_below hbc q1
  replace q2 := cell_below hbc q2
  replace q3 := cell_below hbc q3
  replace r0 := cell_below hbc r0
  replace hbxx := hbxx.trans (hbc.mono hbxx.size)
  clear hkn hbc r1 r2 r3
  obtain ⟨t, ht⟩ : ∃ t, (b2 && !y) = t := ⟨_, rfl⟩
  have hty : (!b2 || y) = !t := by rw [← ht]; cases b2 <;> cases y <;> rfl
  rw [hty] at HR
  rw [ht]
  clear ht hty
  cases t
  rotate_left
  · simp only [Bool.not_true, Bool.false_and] at HR
    go_wp2_with fail
    exact HR.out _ hbxx
  simp only [Bool.not_false, Bool.true_and] at HR
  have hb0 := hbxx.size
  go_wp2_with fail
  go_loopw [5] (fun i wx => ∃ j : Nat, i = .int .i64 (j : Int) ∧ j ≤ v2.length ∧ Hid (covL v b s n (v2.drop j) = z) ∧ Below wc.heap.size wc wx) (fun i _ => v2.length - (RowKit.intOf i).toNat)
  case atStart => exact ⟨0, rfl, Nat.zero_le _, HV, Below.refl _ _⟩
  case round =>
    clear HV
    obtain ⟨j, rfl, hj, HVJ, hx⟩ := hrel
    have hj0 : (0 : Int) ≤ (j : Int) := Int.natCast_nonneg _
    replace q0 := cell_below hx q0
    replace q1 := cell_below hx q1
    replace q2 := cell_below hx q2
    replace q3 := cell_below hx q3
    replace r0 := cell_below hx r0
    by_cases hlt : j < v2.length
    · have hj1 : (j : Int) < (v2.length : Int) := by omega
      have hjd : decide ((j : Int) < (v2.length : Int)) = true := decide_eq_true hj1
      obtain ⟨b', o, hA, hb, d0, d1⟩ := (h2.below hx (Nat.le_refl _)).en j hlt
      have hr := h1.below hx (Nat.le_refl _)
      have hpos := HP.out (v2.getD j (emp, 0)) (by rw [getD_at v2 j _ hlt]; exact List.getElem_mem hlt)
      obtain ⟨⟨k, m⟩, hkm⟩ : ∃ x, v2.getD j (emp, 0) = x := ⟨_, rfl⟩
      have hvj := HVJ.out
      rw [covL_step v b s n hlt, hkm] at hvj
      rw [hkm] at d0 d1 hpos
      dsimp only at d0 d1 hvj
      rw [cov_have (cnt_up HW.out k) HN.out hpos] at hvj
      replace HVJ := Lib.hid hvj
      subst hA
      clear hkm hvj hpos
      have hct := fun W h => ref10_Count v A c k W h hl1
      generalize cntR k v = q at *
      go_upto_region 7 with fail
      have hx' := hx.alloc hx.size (.cells #[.string k, .int .u64 m] 82)
      have hba := Blk.new wr 82 #[.string k, .int .u64 m]
      have hq := (Below.refl wr.heap.size wr).alloc (Nat.le_refl _) (.cells #[.string k, .int .u64 m] 82)
      replace q0 := cell_below hq q0
      replace q1 := cell_below hq q1
      replace q2 := cell_below hq q2
      replace q3 := cell_below hq q3
      replace hr := hr.below hq (Nat.le_refl _)
      clear d0 d1 hx hq r0
      generalize wr.alloc (.cells #[.string k, .int .u64 m] 82) = wa at *
      have e0 := hba.cell 0
      have e1 := hba.cell 1
      dsimp at e0 e1
      generalize wr.heap.size = bz at *
      clear hba
      go_wp2_with fail
      refine (hct _ hr).mono ?_
      rintro e w' ⟨rfl, rfl⟩
      clear hct hr
      have hsb := toList_beq s k
      have hwq : IntKind.u64.wrap (q + 1) = oneMore q := rfl
      have hvj := HVJ.out
      unfold haveR at hvj
      generalize decide (s = k) = e at *
      generalize oneMore q = r at *
      have hnb : (n == r) = decide (n = r) := int_beq n r
      generalize decide (n = r) = y2 at *
      clear HVJ HN
      obtain ⟨p, hp⟩ : ∃ p, (if (b && e && y2) = true then r else q) = p := ⟨_, rfl⟩
      rw [hp] at hvj
      have HVJ := Lib.hid hvj
      clear hvj
      by_cases hpm : p < m
      · have hpd : decide (p < m) = true := decide_eq_true hpm
        have hvj := HVJ.out
        rw [hpd] at hvj
        obtain rfl : z = false := by simpa using hvj.symm
        clear hvj HVJ
        cases b <;> cases e <;> cases y2
        all_goals
          simp only [Bool.and_true, Bool.and_false, Bool.false_eq_true, if_false, if_true] at hp
          subst hp
          go_wp2_with fail
          exact HR.out _ (hbxx.trans (hx'.mono hb0))
      · have hpd : decide (p < m) = false := decide_eq_false hpm
        have hvj := HVJ.out
        rw [hpd] at hvj
        replace HVJ := Lib.hid (show covL v b s n (v2.drop (j + 1)) = z by simpa using hvj)
        clear hvj
        cases b <;> cases e <;> cases y2
        all_goals
          simp only [Bool.and_true, Bool.and_false, Bool.false_eq_true, if_false, if_true] at hp
          subst hp
          go_wp2_with fail
          go_roundw
          case rel => exact ⟨j + 1, by go_num, by omega, HVJ, hx'⟩
          case measure => simp [RowKit.intOf]; omega
    · have hje : j = v2.length := by omega
      have hj1 : ¬ (j : Int) < (v2.length : Int) := by omega
      have hjd : decide ((j : Int) < (v2.length : Int)) = false := decide_eq_false hj1
      have hvj := HVJ.out
      rw [hje, List.drop_of_length_le (Nat.le_refl _), covL] at hvj
      subst hvj
      clear hje HVJ
      go_wp2_with fail
      exact HR.out _ (hbxx.trans (hx.mono hb0))
end
end Go.Proofs.Ytgjiedjfplbipaa
/- dotted.Ceiling. -/
namespace Go.Proofs.Ytgjiedjfplbipaa
open Go.RowKit Go.Lib
section
/-- What a clock adds to a ceiling. -/
def dotsK (k : Ck) : List (List En) := if k.2.1 = true then [k.1.1, [k.2.2]] else [k.1.1]
def dotsL (l : List Ck) : List (List En) := l.flatMap dotsK
def joinLs (m : List (List En)) : List En := m.foldl addV []
def rightLs (m : List (List En)) : Bool := m.all (fun v => decide (checkE v = 0))
def joinQ (m : List (List En)) : List En × Int := if rightLs m = true then listR (joinLs m) else ([], 1)
def ceilR (l : List Ck) : List En × Int := if rtK l = true then listR (joinLs (dotsL l)) else ([], 1)
theorem joinU_go (l : List Vc) : ∀ L, l.foldl (fun L x => addV L x.1) L = (l.map (·.1)).foldl addV L := by
  induction l with
  | nil => intro L; rfl
  | cons x l ih => intro L; exact ih _
theorem joinU_map (l : List Vc) : joinU l = joinLs (l.map (·.1)) := joinU_go l []
theorem rtR_map : ∀ l : List Vc, rtR l = rightLs (l.map (·.1))
  | [] => rfl
  | x :: l => by rw [rtR, rtR_map l]; rfl
theorem joinR_map (l : List Vc) : joinR l = joinQ (l.map (·.1)) := by unfold joinR joinQ; rw [joinU_map, rtR_map]
theorem dotsL_snoc (l : List Ck) (j : Nat) (h : j < l.length) : dotsL (l.take (j + 1)) = dotsL (l.take j) ++ dotsK (l.getD j ck0) := by
  unfold dotsL; rw [take_snoc l j ck0 h, List.flatMap_append]; simp
structure CkOk (k : Ck) : Prop where
  v : checkE k.1.1 = 0
  s : k.2.1 = true → k.2.2.1.size ≤ 32 ∧ k.2.2.1.size ≠ 0
  n : k.2.1 = true → k.2.2.2 ≠ 0
  lt : k.2.1 = true → cntR k.2.2.1 k.1.1 < k.2.2.2
  z : k.2.1 = false → k.2.2.1.size = 0 ∧ k.2.2.2 = 0
theorem okK_ok {k : Ck} (h : okK k = true) : CkOk k := by
  have h := of_decide_eq_true h
  unfold checkK at h
  by_cases h0 : checkE k.1.1 = 0
  rotate_left
  · rw [if_pos h0] at h; exact absurd h h0
  rw [if_neg (fun e => e h0)] at h
  cases hb : k.2.1
  · rw [hb, if_pos rfl] at h
    by_cases hz : k.2.2.1.size = 0 ∧ k.2.2.2 = 0
    · exact ⟨h0, fun e => (by rw [hb] at e; cases e), fun e => (by rw [hb] at e; cases e), fun e => (by rw [hb] at e; cases e), fun _ => hz⟩
    · rw [if_neg hz] at h; exact absurd h (by decide)
  · rw [hb, if_neg (by decide)] at h
    by_cases h1 : 32 < k.2.2.1.size
    · rw [if_pos h1] at h; exact absurd h (by decide)
    rw [if_neg h1] at h
    by_cases h2 : k.2.2.1.size = 0
    · rw [if_pos h2] at h; exact absurd h (by decide)
    rw [if_neg h2] at h
    by_cases h3 : k.2.2.2 = 0
    · rw [if_pos h3] at h; exact absurd h (by decide)
    rw [if_neg h3] at h
    by_cases h4 : k.2.2.2 ≤ cntR k.2.2.1 k.1.1
    · rw [if_pos h4] at h; exact absurd h (by decide)
    exact ⟨h0, fun _ => ⟨by omega, h2⟩, fun _ => h3, fun _ => by omega, fun e => by rw [hb] at e; cases e⟩
theorem checkE_one {x : En} (hs : x.1.size ≤ 32 ∧ x.1.size ≠ 0) (hn : x.2 ≠ 0) : checkE [x] = 0 := by
  unfold checkE checkL
  rw [if_neg (by simp)]
  refine firstErr_of (fun j hj => ?_)
  obtain rfl : j = 0 := by simpa using hj
  unfold enF
  have h0 : ([x].getD 0 (emp, 0)) = x := rfl
  rw [h0, if_neg (by omega), if_neg hs.2, if_neg (fun c => absurd c.1 (by omega)), if_neg hn]
theorem rtK_all : ∀ {l : List Ck}, rtK l = true → ∀ x ∈ l, okK x = true
  | [], _, x, hx => absurd hx (by simp)
  | y :: l, h, x, hx => by
    rw [rtK, Bool.and_eq_true] at h
    rcases List.mem_cons.1 hx with rfl | hx
    · exact h.1
    · exact rtK_all h.2 x hx
theorem dots_right {l : List Ck} (h : rtK l = true) : rightLs (dotsL l) = true := by
  unfold rightLs
  rw [List.all_eq_true]
  intro v hv
  obtain ⟨k, hk, hv⟩ := List.mem_flatMap.1 hv
  have ho := okK_ok (rtK_all h k hk)
  unfold dotsK at hv
  split at hv
  · next hb =>
    simp only [List.mem_cons, List.not_mem_nil, or_false] at hv
    rcases hv with rfl | rfl
    · exact decide_eq_true ho.v
    · exact decide_eq_true (checkE_one (ho.s hb) (ho.n hb))
  · rw [List.mem_singleton] at hv
    subst hv
    exact decide_eq_true ho.v
theorem ceil_join {l : List Ck} (h : rtK l = true) : joinQ (dotsL l) = ceilR l := by unfold joinQ ceilR; rw [if_pos (dots_right h), if_pos h]
/-- Where a vector of the list stands: where it came from, or in a block of its own. -/
def CeilAt (w0 wx : World) (x : Vc) : Prop := Row w0 x.2.1 (flat enC x.1) ∨ ∃ g k m, x = ([(k, m)], some ⟨g, 0, none⟩, 1) ∧ Blk wx g 82 #[.string k, .int .u64 m]
theorem CeilAt.row {w0 wx : World} {x : Vc} (h : CeilAt w0 wx x) (hb : Below w0.heap.size w0 wx) : Row wx x.2.1 (flat enC x.1) := by
  rcases h with h | ⟨g, k, m, rfl, h⟩
  · exact h.below hb (Nat.le_refl _)
  · refine .inr ⟨g, 0, rfl, h.lt, fun j u hu => ?_⟩
    rw [Nat.zero_add, h.cell j]
    match j, hu with
    | 0, hu => exact hu
    | 1, hu => exact hu
theorem CeilAt.alloc {w0 wx : World} {x : Vc} (h : CeilAt w0 wx x) (o : Obj) : CeilAt w0 (wx.alloc o) x := by
  rcases h with h | ⟨g, k, m, rfl, h⟩
  · exact .inl h
  · exact .inr ⟨g, k, m, rfl, h.alloc o⟩
theorem CeilAt.ext {w0 wx w' : World} {x : Vc} {B : Nat} {v : Value} {L : List Vc} (h : CeilAt w0 wx x) (hown : Own wx B 61 1 vcC v L) (hx : Ext (fun b => v.ownBlock = some b) wx w') : CeilAt w0 w' x := by
  rcases h with h | ⟨g, k, m, rfl, h⟩
  · exact .inl h
  · exact .inr ⟨g, k, m, rfl, h.ext hx (hown.ne h (by decide))⟩
theorem info_vc : (Try.prog.info? 61).map (fun i => (i.zero, i.size, i.bytes)) = some (some (.slice none 0 0), 1, 24) := by kernel_rfl
theorem vcC_one (x : Vc) : ∀ u ∈ vcC x, u.oneCell' = true := fun u hu => by
  rw [vcC, List.mem_singleton] at hu
  subst hu
  rfl
set_option maxHeartbeats 4000000 in
set_option maxRecDepth 100000 in
theorem dotted_Ceiling (l : List Ck) (B : Option Addr) (d : Nat) (w : World) (h2 : Row w B (flat ckC l)) (h1 : Cks w l) (hok : ∀ x ∈ l, (∀ e ∈ x.1.1, wfE e) ∧ wfE x.2.2) (hl : l.length ≤ 400) {R : Ending → World → Prop}
    (hR : ∀ A c w', Row w' A (flat enC (ceilR l).1) → Below w.heap.size w w' → R (.returned (.tuple #[.slice A (ceilR l).1.length c, .int .i64 (ceilR l).2])) w') :
    Calls Try.prog 56 #[.slice B l.length d] w R := by
  obtain ⟨i0, hi0, hI0, hI1, hI2⟩ := info_parts info_vc
  have HR := Lib.hid hR
  clear hR
  go_enter Try.func56, Try.ntmps56
  go_wp2_with fail
  refine dotted_right l B d w h2 h1 ?_ (by omega)
  intro w1 hb1
  obtain ⟨z, hz⟩ : ∃ z, rtK l = z := ⟨_, rfl⟩
  rw [hz]
  cases z
  · have hj : ceilR l = ([], 1) := by unfold ceilR; rw [hz, if_neg (by decide)]
    rw [hj] at HR
    clear hj hz
    go_wp2_with fail
    exact HR.out none 0 _ (Row.nil _ _) hb1
  have HCJ := Lib.hid (ceil_join hz)
  have HOK := Lib.hid hok
  clear hz hok
  have hl0 : (0 : Int) ≤ (l.length : Int) := Int.natCast_nonneg _
  have hbs : w.heap.size ≤ w.heap.size := Nat.le_refl _
  go_wp2_with fail
  go_loopw [4, 12] (fun s4 i wx => ∃ (j : Nat) (L : List Vc) (A : Option Addr) (c : Nat), i = .int .i64 (j : Int) ∧ j ≤ l.length ∧ s4 = .slice A L.length c ∧ Own wx w.heap.size 61 1 vcC (.slice A L.length c) L ∧ Hid (∀ x ∈ L, CeilAt w wx x) ∧ Hid (∀ x ∈ L, ∀ e ∈ x.1, wfE e) ∧ Hid (L.map (·.1) = dotsL (l.take j)) ∧ L.length ≤ 2 * j ∧ Below w.heap.size w wx) (fun _ i _ => l.length - (RowKit.intOf i).toNat)
  case atStart => exact ⟨0, [], none, 0, rfl, Nat.zero_le _, rfl, Own.nil _ _ _ _, Lib.hid (fun x h => absurd h (by simp)), Lib.hid (fun x h => absurd h (by simp)), Lib.hid rfl, by simp, hb1⟩
  case round =>
    clear hb1
    obtain ⟨j, L, A, c, rfl, hj, rfl, hown, HAT, HWF, HMP, hL, hx⟩ := hrel
    have hj0 : (0 : Int) ≤ (j : Int) := Int.natCast_nonneg _
    by_cases hlt : j < l.length
    · have hj1 : (j : Int) < (l.length : Int) := by omega
      have hjd : decide ((j : Int) < (l.length : Int)) = true := decide_eq_true hj1
      obtain ⟨b', o, hA, hb, d0, d1, d2, d3⟩ := (h2.below hx (Nat.le_refl _)).ck j hlt
      have hr := h1.at_ j hlt
      have hwk := HOK.out (l.getD j ck0) (by rw [getD_at l j _ hlt]; exact List.getElem_mem hlt)
      have hsn := dotsL_snoc l j hlt
      obtain ⟨⟨⟨v, A1, c1⟩, b, s, n⟩, hkm⟩ : ∃ x, l.getD j ck0 = x := ⟨_, rfl⟩
      rw [hkm] at d0 d1 d2 d3 hr hwk hsn
      unfold vcV at d0
      unfold dotsK at hsn
      dsimp only at d0 d1 d2 d3 hr hwk hsn
      have HRW := Lib.hid hr
      have HWK := Lib.hid hwk
      have HSN := Lib.hid hsn
      subst hA
      clear hkm hsn hwk hr
      go_upto_region 7 with fail
      have hx' := hx.alloc hx.size (.cells #[.slice A1 v.length c1, .bool b, .string s, .int .u64 n] 84)
      have hba := Blk.new wr 84 #[.slice A1 v.length c1, .bool b, .string s, .int .u64 n]
      replace hown := hown.alloc (.cells #[.slice A1 v.length c1, .bool b, .string s, .int .u64 n] 84)
      replace HAT := Lib.hid (fun x hx => (HAT.out x hx).alloc (.cells #[.slice A1 v.length c1, .bool b, .string s, .int .u64 n] 84))
      clear d0 d1 d2 d3 hx
      generalize wr.alloc (.cells #[.slice A1 v.length c1, .bool b, .string s, .int .u64 n] 84) = wa at *
      have q0 := hba.cell 0
      have q1 := hba.cell 1
      have q2 := hba.cell 2
      have q3 := hba.cell 3
      dsimp at q0 q1 q2 q3
      generalize wr.heap.size = bx at *
      go_upto_region 8 with (first
        | (at_builtin; refine wpList_append_one rfl _ _ _ (by rfl) w.heap.size 61 i0 _ 1 24 Try.underlying74 hi0 hI0 hI1 hI2 rfl (by decide) vcC (.slice A L.length c) L (by rfl) (hown.alloc _) (v, A1, c1) ⟨wa.heap.size, 0, none⟩ 1 (by rfl) rfl ((Blk.new _ _ _).news rfl) (vcC_one _) (by unfold maxLen; omega) (by omega) (Nat.le_trans hx'.size (by simp)) ?_
           intro gB cB wB hownB hxB hstB))
      have hbB := below_ext (hx'.alloc hx'.size (.cells #[.slice A1 v.length c1] 61)) (Nat.le_refl _) hxB (fun b e => (hown.lt b e).1)
      have hba2 : Blk wB bx 84 _ := (hba.alloc (.cells #[.slice A1 v.length c1] 61)).ext hxB ((hown.alloc (.cells #[.slice A1 v.length c1] 61)).ne (hba.alloc (.cells #[.slice A1 v.length c1] 61)) (by decide))
      have HATB : Hid (∀ x ∈ L ++ [(v, A1, c1)], CeilAt w wB x) := Lib.hid (fun x hx => by
        rcases List.mem_append.1 hx with hx | hx
        · exact ((HAT.out x hx).alloc _).ext (hown.alloc (.cells #[.slice A1 v.length c1] 61)) hxB
        · rw [List.mem_singleton] at hx
          subst hx
          exact .inl HRW.out)
      have HWFB : Hid (∀ x ∈ L ++ [((v, A1, c1) : Vc)], ∀ e ∈ x.1, wfE e) := Lib.hid (fun x hx => by
        rcases List.mem_append.1 hx with hx | hx
        · exact HWF.out x hx
        · rw [List.mem_singleton] at hx
          subst hx
          exact HWK.out.1)
      have HMPB : Hid ((L ++ [((v, A1, c1) : Vc)]).map (·.1) = dotsL (l.take j) ++ [v]) := Lib.hid (by rw [List.map_append, HMP.out]; rfl)
      have hLB : (L ++ [((v, A1, c1) : Vc)]).length = L.length + 1 := by simp
      clear q0 q1 q2 q3 hba hx' HAT HWF HMP HRW hxB hstB hown
      generalize L ++ [((v, A1, c1) : Vc)] = LB at *
      rw [← hLB] at hownB ⊢
      have hLB2 : LB.length ≤ 2 * j + 1 := by omega
      clear hLB hL
      have q0 := hba2.cell 0
      have q1 := hba2.cell 1
      have q2 := hba2.cell 2
      have q3 := hba2.cell 3
      dsimp at q0 q1 q2 q3
      cases b
      · have hsn := HSN.out
        rw [if_neg (by decide)] at hsn
        replace HMPB := Lib.hid (HMPB.out.trans hsn.symm)
        clear hsn HSN
        go_wp2_with fail
        go_roundw
        case rel => exact ⟨j + 1, LB, some ⟨gB, 0, none⟩, cB, by go_num, by omega, rfl, hownB, HATB, HWFB, HMPB, by omega, hbB⟩
        case measure => simp [RowKit.intOf]; omega
      · have hsn := HSN.out
        rw [if_pos rfl] at hsn
        have HSN2 := Lib.hid hsn
        clear hsn HSN
        have hsz : (wB.alloc (.cells #[.string s, .int .u64 n] 82)).heap.size = wB.heap.size + 1 := by simp
        have hbN : Blk ((wB.alloc (.cells #[.string s, .int .u64 n] 82)).alloc (.cells #[.slice (some ⟨wB.heap.size, 0, none⟩) 1 1] 61)) (wB.heap.size + 1) 61 #[.slice (some ⟨wB.heap.size, 0, none⟩) 1 1] := by
          have := Blk.new (wB.alloc (.cells #[.string s, .int .u64 n] 82)) 61 #[.slice (some ⟨wB.heap.size, 0, none⟩) 1 1]
          rwa [hsz] at this
        have hbE : Blk ((wB.alloc (.cells #[.string s, .int .u64 n] 82)).alloc (.cells #[.slice (some ⟨wB.heap.size, 0, none⟩) 1 1] 61)) wB.heap.size 82 #[.string s, .int .u64 n] := (Blk.new wB 82 #[.string s, .int .u64 n]).alloc _
        have hown2 := (hownB.alloc (.cells #[.string s, .int .u64 n] 82)).alloc (.cells #[.slice (some ⟨wB.heap.size, 0, none⟩) 1 1] 61)
        have hb2 := (hbB.alloc hbB.size (.cells #[.string s, .int .u64 n] 82)).alloc (hbB.alloc hbB.size (.cells #[.string s, .int .u64 n] 82)).size (.cells #[.slice (some ⟨wB.heap.size, 0, none⟩) 1 1] 61)
        go_wp2_with (first
          | (at_builtin; refine wpList_append_one rfl _ _ _ (by rfl) w.heap.size 61 i0 _ 1 24 Try.underlying74 hi0 hI0 hI1 hI2 rfl (by decide) vcC (.slice (some ⟨gB, 0, none⟩) LB.length cB) LB (by rfl) hown2 ([(s, n)], some ⟨wB.heap.size, 0, none⟩, 1) ⟨wB.heap.size + 1, 0, none⟩ 1 (by rfl) rfl (hbN.news rfl) (vcC_one _) (by unfold maxLen; omega) (by omega) hb2.size ?_
             intro g9 c9 w9 hown9 hx9 hst9))
        have hb9 := below_ext hb2 (Nat.le_refl _) hx9 (fun b e => (hown2.lt b e).1)
        have hbE9 := hbE.ext hx9 (hown2.ne hbE (by decide))
        have HAT9 : Hid (∀ x ∈ LB ++ [(([(s, n)], some ⟨wB.heap.size, 0, none⟩, 1) : Vc)], CeilAt w w9 x) := Lib.hid (fun x hx => by
          rcases List.mem_append.1 hx with hx | hx
          · exact (((HATB.out x hx).alloc _).alloc _).ext hown2 hx9
          · rw [List.mem_singleton] at hx
            subst hx
            exact .inr ⟨_, _, _, rfl, hbE9⟩)
        have HWF9 : Hid (∀ x ∈ LB ++ [(([(s, n)], some ⟨wB.heap.size, 0, none⟩, 1) : Vc)], ∀ e ∈ x.1, wfE e) := Lib.hid (fun x hx => by
          rcases List.mem_append.1 hx with hx | hx
          · exact HWFB.out x hx
          · rw [List.mem_singleton] at hx
            subst hx
            intro e he
            rw [List.mem_singleton] at he
            subst he
            exact HWK.out.2)
        have HMP9 : Hid ((LB ++ [(([(s, n)], some ⟨wB.heap.size, 0, none⟩, 1) : Vc)]).map (·.1) = dotsL (l.take (j + 1))) := Lib.hid (by rw [List.map_append, HMPB.out, HSN2.out, List.append_assoc]; rfl)
        have hL9 : (LB ++ [(([(s, n)], some ⟨wB.heap.size, 0, none⟩, 1) : Vc)]).length = LB.length + 1 := by simp
        clear hbE hbN hbE9 hown2 hb2 hx9 hst9 HATB HWFB HMPB hownB hbB hba2 q0 q1 q2 q3 hsz
        generalize LB ++ [(([(s, n)], some ⟨wB.heap.size, 0, none⟩, 1) : Vc)] = L9 at *
        rw [← hL9] at hown9 ⊢
        have hL92 : L9.length ≤ 2 * (j + 1) := by omega
        go_roundw
        case rel => exact ⟨j + 1, L9, some ⟨g9, 0, none⟩, c9, by go_num, by omega, rfl, hown9, HAT9, HWF9, HMP9, hL92, hb9⟩
        case measure => simp [RowKit.intOf]; omega
    · have hje : j = l.length := by omega
      have hj1 : ¬ (j : Int) < (l.length : Int) := by omega
      have hjd : decide ((j : Int) < (l.length : Int)) = false := decide_eq_false hj1
      have hmp := HMP.out
      rw [hje, List.take_length] at hmp
      have hjr := joinR_map L
      rw [hmp, HCJ.out] at hjr
      clear hje hmp HMP HCJ
      go_wp2_with fail
      refine vector_Join L A c wr (Row.of_own hown) (fun x h => (HAT.out x h).row hx) HWF.out (by omega) ?_
      rw [hjr]
      generalize ceilR l = r at *
      obtain ⟨r1, r2⟩ := r
      dsimp only at HR ⊢
      intro A3 c3 w3 hr3 hb3
      clear hjr
      go_wp2_with fail
      exact HR.out A3 c3 _ hr3 (hx.trans (hb3.mono hx.size))
end
end Go.Proofs.Ytgjiedjfplbipaa
/- Clocks, plainly: to cover is to know each event; what is kept. -/
namespace Go.Proofs.Ytgjiedjfplbipaa
section
def knK (k : Ck) (n : ByteArray) (m : Int) : Bool := knowsR k.1.1 k.2.1 k.2.2.1 k.2.2.2 n m
def cvK (a b : Ck) : Bool := coversR a.1.1 a.2.1 a.2.2.1 a.2.2.2 b.1.1 b.2.1 b.2.2.1 b.2.2.2
/-- A right clock, of numbers as the program has them. -/
structure Good (k : Ck) : Prop where
  ok : okK k = true
  wf : ∀ e ∈ k.1.1, wfE e
  wd : wfE k.2.2
theorem Good.vok {k : Ck} (h : Good k) : Vok k.1.1 := vok_of (okK_ok h.ok).v h.wf
theorem cnt_in {v : List En} {n : ByteArray} (h : cntR n v ≠ 0) : (n, cntR n v) ∈ v := by
  induction v with
  | nil => exact absurd rfl h
  | cons x l ih =>
    rw [cntR] at h ⊢
    split
    · next e => subst e; exact List.mem_cons_self
    · next e => rw [if_neg e] at h; exact List.mem_cons_of_mem _ (ih h)
theorem covL_iff {v : List En} {b : Bool} {s : ByteArray} {n : Int} : ∀ {l : List En}, covL v b s n l = true ↔ ∀ x ∈ l, covX v b s n x = true
  | [] => ⟨fun _ x h => absurd h (by simp), fun _ => rfl⟩
  | y :: l => by
    rw [covL, Bool.and_eq_true, covL_iff (l := l)]
    constructor
    · rintro ⟨h1, h2⟩ x hx
      rcases List.mem_cons.1 hx with rfl | hx
      · exact h1
      · exact h2 x hx
    · intro h
      exact ⟨h y (by simp), fun x hx => h x (List.mem_cons_of_mem _ hx)⟩
theorem knK_iff {k : Ck} {n : ByteArray} {m : Int} : knK k n m = true ↔ m ≠ 0 ∧ ((k.2.1 = true ∧ k.2.2.1 = n ∧ k.2.2.2 = m) ∨ m ≤ cntR n k.1.1) := by
  unfold knK knowsR
  simp [and_assoc]
theorem cv_iff {a b : Ck} (ha : Good a) (hb : Good b) : cvK a b = true ↔ ∀ n m, knK b n m = true → knK a n m = true := by
  unfold cvK coversR
  rw [Bool.and_eq_true, covL_iff]
  have va := ha.vok
  have vb := hb.vok
  have hcov : ∀ x : En, covX a.1.1 a.2.1 a.2.2.1 a.2.2.2 x = true ↔ x.2 - 1 ≤ cntR x.1 a.1.1 ∧ knK a x.1 x.2 = true := fun x => by
    unfold covX
    rw [Bool.and_eq_true, Bool.not_eq_true', decide_eq_false_iff_not]
    exact and_congr_left' (by omega)
  constructor
  · rintro ⟨h1, h2⟩ n m hk
    obtain ⟨hm, hk⟩ := knK_iff.1 hk
    rcases hk with ⟨hb2, hs, hn⟩ | hk
    · rw [hb2] at h1
      simp only [Bool.not_true, Bool.false_or] at h1
      rw [← hs, ← hn]
      exact h1
    · by_cases h0 : m < 0
      · exact knK_iff.2 ⟨hm, .inr (by have := cnt_low ha.wf n; omega)⟩
      · have hc : cntR n b.1.1 ≠ 0 := by omega
        obtain ⟨h3, h4⟩ := (hcov _).1 (h2 _ (cnt_in hc))
        dsimp only at h3 h4
        by_cases he : m = cntR n b.1.1
        · rw [he]; exact h4
        · exact knK_iff.2 ⟨hm, .inr (by omega)⟩
  · intro h
    refine ⟨?_, fun x hx => (hcov x).2 ?_⟩
    · cases hb2 : b.2.1
      · rfl
      · simp only [Bool.not_true, Bool.false_or]
        exact h _ _ (knK_iff.2 ⟨(okK_ok hb.ok).n hb2, .inl ⟨hb2, rfl, rfl⟩⟩)
    · have hM := cnt_mem vb.srt hx
      have hp := vb.pos x hx
      have hk := h x.1 x.2 (knK_iff.2 ⟨by omega, .inr (by omega)⟩)
      refine ⟨?_, hk⟩
      by_cases h1 : x.2 = 1
      · have := cnt_low ha.wf x.1
        omega
      · have hk2 := h x.1 (x.2 - 1) (knK_iff.2 ⟨by omega, .inr (by omega)⟩)
        rcases (knK_iff.1 hk2).2 with ⟨_, _, hd⟩ | hd
        · rcases (knK_iff.1 hk).2 with ⟨_, _, hd2⟩ | hd2
          · omega
          · omega
        · exact hd
theorem cv_refl {a : Ck} (ha : Good a) : cvK a a = true := (cv_iff ha ha).2 (fun _ _ h => h)
theorem cv_trans {a b c : Ck} (ha : Good a) (hb : Good b) (hc : Good c) (h1 : cvK a b = true) (h2 : cvK b c = true) : cvK a c = true :=
  (cv_iff ha hc).2 (fun n m h => (cv_iff ha hb).1 h1 n m ((cv_iff hb hc).1 h2 n m h))
/-- Is the clock at a place one that another one covers? -/
def beats (l : List Ck) (i j : Nat) : Bool := decide (j ≠ i) && cvK (l.getD j ck0) (l.getD i ck0) && (decide (j < i) || !cvK (l.getD i ck0) (l.getD j ck0))
def lostR (l : List Ck) (i : Nat) : Bool := (List.range l.length).any (beats l i)
def keepR (l : List Ck) : List Nat := (List.range l.length).filter (fun i => !lostR l i)
theorem beats_trans {l : List Ck} (h : ∀ j, j < l.length → Good (l.getD j ck0)) {i j k : Nat} (hi : i < l.length) (hj : j < l.length) (hk : k < l.length) (h1 : beats l i j = true) (h2 : beats l j k = true) : beats l i k = true := by
  unfold beats at h1 h2 ⊢
  simp only [Bool.and_eq_true, decide_eq_true_eq, Bool.or_eq_true, Bool.not_eq_true'] at h1 h2 ⊢
  obtain ⟨⟨n1, c1⟩, o1⟩ := h1
  obtain ⟨⟨n2, c2⟩, o2⟩ := h2
  have ck := cv_trans (h k hk) (h j hj) (h i hi) c2 c1
  by_cases hki : k = i
  · subst hki
    rcases o1 with o1 | o1
    · rcases o2 with o2 | o2
      · omega
      · rw [c1] at o2; cases o2
    · rw [c2] at o1; cases o1
  · refine ⟨⟨hki, ck⟩, ?_⟩
    by_cases hlt : k < i
    · exact .inl hlt
    · right
      cases hc : cvK (l.getD i ck0) (l.getD k ck0)
      · rfl
      · have e1 := cv_trans (h j hj) (h i hi) (h k hk) c1 hc
        have e2 := cv_trans (h i hi) (h k hk) (h j hj) hc c2
        rcases o1 with o1 | o1
        · rcases o2 with o2 | o2
          · omega
          · rw [e1] at o2; cases o2
        · rw [e2] at o1; cases o1
theorem lost_iff {l : List Ck} {i : Nat} : lostR l i = true ↔ ∃ j, j < l.length ∧ beats l i j = true := by
  unfold lostR
  rw [List.any_eq_true]
  constructor
  · rintro ⟨j, hj, h⟩; exact ⟨j, List.mem_range.1 hj, h⟩
  · rintro ⟨j, hj, h⟩; exact ⟨j, List.mem_range.2 hj, h⟩
/-- Above each that is lost stands one that is kept. -/
theorem kept_above {l : List Ck} (h : ∀ j, j < l.length → Good (l.getD j ck0)) : ∀ (n i : Nat), i < l.length → ((List.range l.length).filter (fun j => beats l i j)).length ≤ n → lostR l i = true → ∃ j, j < l.length ∧ beats l i j = true ∧ lostR l j = false := by
  intro n
  induction n with
  | zero =>
    intro i hi hn hl
    obtain ⟨j, hj, hb⟩ := lost_iff.1 hl
    have : j ∈ (List.range l.length).filter (fun j => beats l i j) := List.mem_filter.2 ⟨List.mem_range.2 hj, hb⟩
    have := List.length_pos_of_mem this
    omega
  | succ n ih =>
    intro i hi hn hl
    obtain ⟨j, hj, hb⟩ := lost_iff.1 hl
    cases hlj : lostR l j
    · exact ⟨j, hj, hb, hlj⟩
    · have hsub : ((List.range l.length).filter (fun k => beats l j k)).length < ((List.range l.length).filter (fun k => beats l i k)).length := by
        have hjj : beats l j j = false := by unfold beats; simp
        have e1 : (List.range l.length).filter (fun k => beats l j k) = ((List.range l.length).filter (fun k => beats l i k)).filter (fun k => beats l j k) := by
          rw [List.filter_filter]
          refine List.filter_congr (fun k hk => ?_)
          rw [Bool.eq_iff_iff, Bool.and_eq_true]
          exact ⟨fun e => ⟨e, beats_trans h hi hj (List.mem_range.1 hk) hb e⟩, fun e => e.1⟩
        rw [e1]
        have hm : j ∈ (List.range l.length).filter (fun k => beats l i k) := List.mem_filter.2 ⟨List.mem_range.2 hj, hb⟩
        have hle := List.length_filter_le (fun k => beats l j k) ((List.range l.length).filter (fun k => beats l i k))
        rcases Nat.lt_or_ge (((List.range l.length).filter (fun k => beats l i k)).filter (fun k => beats l j k)).length ((List.range l.length).filter (fun k => beats l i k)).length with hx | hx
        · exact hx
        · have hall := List.length_filter_eq_length_iff.1 (Nat.le_antisymm hle hx) j hm
          rw [hjj] at hall; cases hall
      obtain ⟨k, hk, hbk, hlk⟩ := ih j hj (by omega) hlj
      exact ⟨k, hk, beats_trans h hi hj hk hb hbk, hlk⟩
theorem mem_keep {l : List Ck} {i : Nat} : i ∈ keepR l ↔ i < l.length ∧ lostR l i = false := by
  unfold keepR
  rw [List.mem_filter, List.mem_range, Bool.not_eq_true']
/-- Either a clock is kept, or another one that is kept covers it. -/
theorem keep_xor {l : List Ck} (h : ∀ j, j < l.length → Good (l.getD j ck0)) {i : Nat} (hi : i < l.length) :
    (keepR l).any (fun j => decide (j ≠ i) && cvK (l.getD j ck0) (l.getD i ck0)) = !(decide (i ∈ keepR l)) := by
  cases hl : lostR l i
  · rw [decide_eq_true (mem_keep.2 ⟨hi, hl⟩), Bool.not_true, List.any_eq_false]
    intro j hj
    obtain ⟨hj1, hj2⟩ := mem_keep.1 hj
    intro hc
    rw [Bool.and_eq_true, decide_eq_true_eq] at hc
    have hb : beats l i j = false := by
      cases hx : beats l i j
      · rfl
      · have := lost_iff.2 ⟨j, hj1, hx⟩
        rw [hl] at this; cases this
    unfold beats at hb
    rw [decide_eq_true hc.1, hc.2] at hb
    simp only [Bool.true_and, Bool.or_eq_false_iff, decide_eq_false_iff_not, Bool.not_eq_false'] at hb
    have hb2 : beats l j i = true := by
      unfold beats
      rw [decide_eq_true (show i ≠ j from fun e => hc.1 e.symm), hb.2, decide_eq_true (show i < j by omega)]; rfl
    have := lost_iff.2 ⟨i, hi, hb2⟩
    rw [hj2] at this; cases this
  · rw [decide_eq_false (fun hm => by rw [(mem_keep.1 hm).2] at hl; cases hl), Bool.not_false, List.any_eq_true]
    obtain ⟨j, hj, hb, hk⟩ := kept_above h _ i hi (Nat.le_refl _) hl
    unfold beats at hb
    simp only [Bool.and_eq_true, decide_eq_true_eq] at hb
    exact ⟨j, mem_keep.2 ⟨hj, hk⟩, by rw [decide_eq_true hb.1.1, hb.1.2]; rfl⟩
theorem keep_srt (l : List Ck) : (keepR l).Pairwise (· < ·) := List.Pairwise.filter _ List.pairwise_lt_range
end
end Go.Proofs.Ytgjiedjfplbipaa
/- spencelaw12.awake. -/
namespace Go.Proofs.Ytgjiedjfplbipaa
open Go.RowKit Go.Lib
section
theorem awake12_ceil (A : Option Addr) (c : Nat) : ceilR [(([(⟨#[97]⟩, 1)], A, c), true, ⟨#[97]⟩, 3)] = ([(⟨#[97]⟩, 3)], 0) := by kernel_rfl
theorem awake12_ok (A : Option Addr) (c : Nat) : okK (([(⟨#[97]⟩, 1)], A, c), true, ⟨#[97]⟩, 3) = true := by kernel_rfl
theorem awake12_k3 : knowsR [(⟨#[97]⟩, 1)] true ⟨#[97]⟩ 3 ⟨#[97]⟩ 3 = true := by kernel_rfl
theorem awake12_k2 : knowsR [(⟨#[97]⟩, 1)] true ⟨#[97]⟩ 3 ⟨#[97]⟩ 2 = false := by kernel_rfl
set_option maxHeartbeats 2000000 in
set_option maxRecDepth 100000 in
theorem law12_awake (w : World) {R : Ending → World → Prop} (hR : ∀ w', Below w.heap.size w w' → R (.returned (.bool true)) w') :
    Calls Try.prog 51 #[] w R := by
  have HR := Lib.hid hR
  clear hR
  go_enter Try.func51, Try.ntmps51
  go_upto_region 2 with fail
  have hb1 := (Below.refl w.heap.size w).alloc (Nat.le_refl _) (.cells #[.string ⟨#[97]⟩, .int .u64 1] 82)
  have hr1 : Row _ _ (flat enC [((⟨#[97]⟩ : ByteArray), (1 : Int))]) := Row.new w 82 #[.string ⟨#[97]⟩, .int .u64 1]
  have hsz : (w.alloc (.cells #[.string ⟨#[97]⟩, .int .u64 1] 82)).heap.size = w.heap.size + 1 := by simp
  have hbk := Blk.new (w.alloc (.cells #[.string ⟨#[97]⟩, .int .u64 1] 82)) 84 #[.slice (some ⟨w.heap.size, 0, none⟩) 1 1, .bool true, .string ⟨#[97]⟩, .int .u64 3]
  rw [hsz] at hbk
  replace hr1 := hr1.alloc (.cells #[.slice (some ⟨w.heap.size, 0, none⟩) 1 1, .bool true, .string ⟨#[97]⟩, .int .u64 3] 84)
  replace hb1 := hb1.alloc hb1.size (.cells #[.slice (some ⟨w.heap.size, 0, none⟩) 1 1, .bool true, .string ⟨#[97]⟩, .int .u64 3] 84)
  generalize (w.alloc (.cells #[.string ⟨#[97]⟩, .int .u64 1] 82)).alloc (.cells #[.slice (some ⟨w.heap.size, 0, none⟩) 1 1, .bool true, .string ⟨#[97]⟩, .int .u64 3] 84) = w2 at *
  have q0 := hbk.cell 0
  have q1 := hbk.cell 1
  have q2 := hbk.cell 2
  have q3 := hbk.cell 3
  dsimp at q0 q1 q2 q3
  obtain ⟨n, hn⟩ : ∃ n, w.heap.size = n := ⟨_, rfl⟩
  rw [hn] at hr1 q0 q1 q2 q3 hbk ⊢
  have HN := Lib.hid hn
  clear hsz hn hbk
  go_wp2_with fail
  have hb0 := (Below.refl w2.heap.size w2).alloc (Nat.le_refl _) (.cells #[.slice (some ⟨n, 0, none⟩) 1 1, .bool true, .string ⟨#[97]⟩, .int .u64 3] 84)
  have hrow : Row _ _ (flat ckC [(([((⟨#[97]⟩ : ByteArray), (1 : Int))], some ⟨n, 0, none⟩, 1), true, ⟨#[97]⟩, 3)]) := Row.new w2 84 #[.slice (some ⟨n, 0, none⟩) 1 1, .bool true, .string ⟨#[97]⟩, .int .u64 3]
  refine dotted_Ceiling [(([(⟨#[97]⟩, 1)], some ⟨n, 0, none⟩, 1), true, ⟨#[97]⟩, 3)] _ 1 _ hrow (cks_one (hr1.below hb0 (Nat.le_refl _))) (fun x hx => by
    rw [List.mem_singleton] at hx
    subst hx
    refine ⟨fun e he => ?_, rfl⟩
    rw [List.mem_singleton] at he
    subst he
    exact rfl) (by simp) ?_
  rw [awake12_ceil]
  intro A c w3 hr3 hb3
  replace hb3 := hb0.trans (hb3.mono hb0.size)
  replace hr1 := hr1.below hb3 (Nat.le_refl _)
  replace q0 := cell_below hb3 q0
  replace q1 := cell_below hb3 q1
  replace q2 := cell_below hb3 q2
  replace q3 := cell_below hb3 q3
  replace hb1 := hb1.trans (hb3.mono hb1.size)
  clear hrow hb0 hb3
  go_wp2_with fail
  refine dotted_Knows [(⟨#[97]⟩, 1)] (some ⟨n, 0, none⟩) 1 true ⟨#[97]⟩ 3 ⟨#[97]⟩ 3 w3 hr1 (by decide) (by decide) ?_
  rw [awake12_ok, awake12_k3]
  intro w4 hb4
  replace hr1 := hr1.below hb4 (Nat.le_refl _)
  replace hr3 := hr3.below hb4 (Nat.le_refl _)
  replace q0 := cell_below hb4 q0
  replace q1 := cell_below hb4 q1
  replace q2 := cell_below hb4 q2
  replace q3 := cell_below hb4 q3
  replace hb1 := hb1.trans (hb4.mono hb1.size)
  clear hb4
  go_wp2_with fail
  refine dotted_Knows [(⟨#[97]⟩, 1)] (some ⟨n, 0, none⟩) 1 true ⟨#[97]⟩ 3 ⟨#[97]⟩ 2 w4 hr1 (by decide) (by decide) ?_
  rw [awake12_ok, awake12_k2]
  intro w5 hb5
  replace hr3 := hr3.below hb5 (Nat.le_refl _)
  replace hb1 := hb1.trans (hb5.mono hb1.size)
  clear hr1 q0 q1 q2 q3 hb5
  have hr5 : Row _ _ (flat enC [((⟨#[97]⟩ : ByteArray), (3 : Int))]) := Row.new w5 82 #[.string ⟨#[97]⟩, .int .u64 3]
  replace hr3 := hr3.alloc (.cells #[.string ⟨#[97]⟩, .int .u64 3] 82)
  replace hb1 := hb1.alloc hb1.size (.cells #[.string ⟨#[97]⟩, .int .u64 3] 82)
  go_wp2_with fail
  refine ref10_Same [(⟨#[97]⟩, 3)] [(⟨#[97]⟩, 3)] A (some ⟨w5.heap.size, 0, none⟩) c 1 _ hr3 hr5 (by decide) ?_
  rintro w' m rfl
  rw [decide_eq_true rfl]
  go_wp2_with fail
  first | exact HR.out _ (below_drewN hb1 m) | (go_ret; exact HR.out _ (below_drewN hb1 m))
end
end Go.Proofs.Ytgjiedjfplbipaa
