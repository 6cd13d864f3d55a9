/- DottedTells' walk. -/
import Derived.Test.YtgjiedjfplbipaaLaw12Awake
import Derived.Test.YtgjiedjfplbipaaLaw10Tells
import Derived.Test.YtgjiedjfplbipaaVecPlain
namespace Go.Proofs.Ytgjiedjfplbipaa
open Go.RowKit Go.Lib
section
theorem sameK_refl (v : List En) (b : Bool) (s : ByteArray) (n : Int) : sameK v b s n v b s n = true := by simp [sameK]
theorem posE_of {v : List En} (h : checkE v = 0) (hw : ∀ x ∈ v, wfE x) : ∀ x ∈ v, posE x := fun x hx => by
  have hp := (vok_of h hw).pos x hx
  have hx' := hw x hx
  unfold wfE Lit.wf at hx'
  rw [Bool.and_eq_true] at hx'
  exact ⟨hp, of_decide_eq_true hx'.2⟩
theorem tells_below {w w1 w2 : World} {v v2 : List En} {A A2 A' : Option Addr} {c c2 c' : Nat} {b b2 : Bool} {s s2 : ByteArray} {n n2 : Int} (bx bY bp : Nat)
    (h : (w1).cell? ⟨bx, 0, none⟩ = some (.slice A v.length c) ∧ (w1).cell? ⟨bx, 1, none⟩ = some (.bool b) ∧ (w1).cell? ⟨bx, 2, none⟩ = some (.string s) ∧ (w1).cell? ⟨bx, 3, none⟩ = some (.int .u64 n) ∧ (w1).cell? ⟨bY, 0, none⟩ = some (.slice A2 v2.length c2) ∧ (w1).cell? ⟨bY, 1, none⟩ = some (.bool b2) ∧ (w1).cell? ⟨bY, 2, none⟩ = some (.string s2) ∧ (w1).cell? ⟨bY, 3, none⟩ = some (.int .u64 n2) ∧ (w1).cell? ⟨bp, 0, none⟩ = some (.slice A' v.length c') ∧ (w1).cell? ⟨bp, 1, none⟩ = some (.bool false) ∧ (w1).cell? ⟨bp, 2, none⟩ = some (.string ⟨#[]⟩) ∧ (w1).cell? ⟨bp, 3, none⟩ = some (.int .u64 0) ∧ Row (w1) A (flat enC v) ∧ Row (w1) A2 (flat enC v2) ∧ Row (w1) A' (flat enC v) ∧ Below w.heap.size w (w1)) (hk : Below w1.heap.size w1 w2) : (w2).cell? ⟨bx, 0, none⟩ = some (.slice A v.length c) ∧ (w2).cell? ⟨bx, 1, none⟩ = some (.bool b) ∧ (w2).cell? ⟨bx, 2, none⟩ = some (.string s) ∧ (w2).cell? ⟨bx, 3, none⟩ = some (.int .u64 n) ∧ (w2).cell? ⟨bY, 0, none⟩ = some (.slice A2 v2.length c2) ∧ (w2).cell? ⟨bY, 1, none⟩ = some (.bool b2) ∧ (w2).cell? ⟨bY, 2, none⟩ = some (.string s2) ∧ (w2).cell? ⟨bY, 3, none⟩ = some (.int .u64 n2) ∧ (w2).cell? ⟨bp, 0, none⟩ = some (.slice A' v.length c') ∧ (w2).cell? ⟨bp, 1, none⟩ = some (.bool false) ∧ (w2).cell? ⟨bp, 2, none⟩ = some (.string ⟨#[]⟩) ∧ (w2).cell? ⟨bp, 3, none⟩ = some (.int .u64 0) ∧ Row (w2) A (flat enC v) ∧ Row (w2) A2 (flat enC v2) ∧ Row (w2) A' (flat enC v) ∧ Below w.heap.size w (w2) := by
  obtain ⟨q0, q1, q2, q3, r0, r1, r2, r3, p0, p1, p2, p3, h1, h2, h3, hb⟩ := h
  exact ⟨cell_below hk q0, cell_below hk q1, cell_below hk q2, cell_below hk q3, cell_below hk r0, cell_below hk r1, cell_below hk r2, cell_below hk r3, cell_below hk p0, cell_below hk p1, cell_below hk p2, cell_below hk p3, h1.below hk (Nat.le_refl _), h2.below hk (Nat.le_refl _), h3.below hk (Nat.le_refl _), hb.trans (hk.mono hb.size)⟩
set_option maxHeartbeats 4000000 in
set_option maxRecDepth 100000 in
theorem law12_tells (v v2 : List En) {n1 n3 : Nat} (hn1 : v.length = n1) (hn3 : v2.length = n3) (A A2 : Option Addr) (c c2 : Nat) (b b2 : Bool) (s s2 : ByteArray) (n n2 : Int) (k : ByteArray) (m : Int) (w : World) (h1 : Row w A (flat enC v)) (h2 : Row w A2 (flat enC v2))
    (hw1 : ∀ x ∈ v, wfE x) (hw2 : ∀ x ∈ v2, wfE x) (hwn : 0 ≤ n) (hwn2 : 0 ≤ n2) (hm : 0 ≤ m) :
    Calls Try.prog 13 #[.agg #[.slice A n1 c, .bool b, .string s, .int .u64 n], .agg #[.slice A2 n3 c2, .bool b2, .string s2, .int .u64 n2], .string k, .int .u64 m] w fun e w' => e = .returned (.bool true) ∧ Below w.heap.size w w' := by
  subst hn1 hn3
  go_enter Try.func13, Try.ntmps13
  go_upto_region 1 with fail
  have hbxk := Blk.new w 84 #[.slice A v.length c, .bool b, .string s, .int .u64 n]
  have hbxx := (Below.refl w.heap.size w).alloc (Nat.le_refl _) (.cells #[.slice A v.length c, .bool b, .string s, .int .u64 n] 84)
  have hsz : (w.alloc (.cells #[.slice A v.length c, .bool b, .string s, .int .u64 n] 84)).heap.size = w.heap.size + 1 := by simp
  generalize w.alloc (.cells #[.slice A v.length c, .bool b, .string s, .int .u64 n] 84) = wa at *
  have hbyk := Blk.new wa 84 #[.slice A2 v2.length c2, .bool b2, .string s2, .int .u64 n2]
  rw [hsz] at hbyk
  replace hbxk := hbxk.alloc (.cells #[.slice A2 v2.length c2, .bool b2, .string s2, .int .u64 n2] 84)
  replace hbxx := hbxx.alloc hbxx.size (.cells #[.slice A2 v2.length c2, .bool b2, .string s2, .int .u64 n2] 84)
  generalize wa.alloc (.cells #[.slice A2 v2.length c2, .bool b2, .string s2, .int .u64 n2] 84) = wb at *
  have q0 := hbxk.cell 0
  have q1 := hbxk.cell 1
  have q2 := hbxk.cell 2
  have q3 := hbxk.cell 3
  have r0 := hbyk.cell 0
  have r1 := hbyk.cell 1
  have r2 := hbyk.cell 2
  have r3 := hbyk.cell 3
  dsimp at q0 q1 q2 q3 r0 r1 r2 r3
  obtain ⟨bx, hbxe⟩ : ∃ b, w.heap.size = b := ⟨_, rfl⟩
  obtain ⟨bY, hbye⟩ : ∃ b, w.heap.size + 1 = b := ⟨_, rfl⟩
  rw [hbye] at r0 r1 r2 r3 ⊢
  rw [hbxe] at q0 q1 q2 q3 ⊢
  clear hsz hbxe hbye hbxk hbyk
  replace h1 := h1.below hbxx (Nat.le_refl _)
  replace h2 := h2.below hbxx (Nat.le_refl _)
  go_wp2_with fail
  refine law12_awake wb ?_
  intro w1 hb1
  replace h1 := h1.below hb1 (Nat.le_refl _)
  replace h2 := h2.below hb1 (Nat.le_refl _)
  replace q0 := cell_below hb1 q0
  replace q1 := cell_below hb1 q1
  replace q2 := cell_below hb1 q2
  replace q3 := cell_below hb1 q3
  replace r0 := cell_below hb1 r0
  replace r1 := cell_below hb1 r1
  replace r2 := cell_below hb1 r2
  replace r3 := cell_below hb1 r3
  replace hbxx := hbxx.trans (hb1.mono hbxx.size)
  clear hb1
  go_wp2_with fail
  refine ref12_Great v A c b s n w1 h1 ?_
  intro g w2 hb2 hg
  replace h1 := h1.below hb2 (Nat.le_refl _)
  replace h2 := h2.below hb2 (Nat.le_refl _)
  replace q0 := cell_below hb2 q0
  replace q1 := cell_below hb2 q1
  replace q2 := cell_below hb2 q2
  replace q3 := cell_below hb2 q3
  replace r0 := cell_below hb2 r0
  replace r1 := cell_below hb2 r1
  replace r2 := cell_below hb2 r2
  replace r3 := cell_below hb2 r3
  replace hbxx := hbxx.trans (hb2.mono hbxx.size)
  clear hb2
  cases g
  rotate_left
  · go_wp2_with fail
    first | exact ⟨rfl, hbxx⟩ | (go_ret; exact ⟨rfl, hbxx⟩)
  obtain ⟨hlv, _⟩ := hg rfl
  clear hg
  go_wp2_with fail
  refine ref12_Great v2 A2 c2 b2 s2 n2 w2 h2 ?_
  intro g w3 hb3 hg
  replace h1 := h1.below hb3 (Nat.le_refl _)
  replace h2 := h2.below hb3 (Nat.le_refl _)
  replace q0 := cell_below hb3 q0
  replace q1 := cell_below hb3 q1
  replace q2 := cell_below hb3 q2
  replace q3 := cell_below hb3 q3
  replace r0 := cell_below hb3 r0
  replace r1 := cell_below hb3 r1
  replace r2 := cell_below hb3 r2
  replace r3 := cell_below hb3 r3
  replace hbxx := hbxx.trans (hb3.mono hbxx.size)
  clear hb3
  cases g
  rotate_left
  · go_wp2_with fail
    first | exact ⟨rfl, hbxx⟩ | (go_ret; exact ⟨rfl, hbxx⟩)
  obtain ⟨hlv2, _⟩ := hg rfl
  clear hg
  by_cases hnm : 100 < k.size
  · have e1 : (100 : Int) < (k.size : Int) := by omega
    have e2 : decide ((100 : Int) < (k.size : Int)) = true := decide_eq_true e1
    go_wp2_with fail
    first | exact ⟨rfl, hbxx⟩ | (go_ret; exact ⟨rfl, hbxx⟩)
  have e1 : ¬ (100 : Int) < (k.size : Int) := by omega
  have e2 : decide ((100 : Int) < (k.size : Int)) = false := decide_eq_false e1
  have HLV := Lib.hid hlv
  have HLV2 := Lib.hid hlv2
  clear hnm hlv hlv2
  -- what is computed, by name
  have hK1 := fun W h R => dotted_Check v A c b s n W h (R := R)
  have hK2 := fun W h R => ref12_Check v A c b s n W h (R := R)
  have hK3 := fun W h R => ref12_Check v2 A2 c2 b2 s2 n2 W h (R := R)
  have hS1 := fun W h1 h2 R => dotted_Same v v2 A A2 c c2 b b2 s s2 n n2 W h1 h2 (by have := HLV.out; omega) (R := R)
  have hS2 := fun W h1 h2 R => ref12_Same v v2 A A2 c c2 b b2 s s2 n n2 W h1 h2 (by have := HLV.out; omega) (R := R)
  have hN1 := fun W h R => dotted_Knows v A c b s n k m W h (by have := HLV.out; omega) hm (R := R)
  have hN2 := fun W h R => ref12_Knows v A c b s n k m W h (by have := HLV.out; omega) (R := R)
  have hok2 : okK ((v2, A2, c2), b2, s2, n2) = true → checkE v2 = 0 := fun h => (okK_ok h).v
  have hC1 := fun W h1 h2 R => dotted_Covers v v2 A A2 c c2 b b2 s s2 n n2 W h1 h2 (by have := HLV.out; omega) (by have := HLV2.out; omega) (fun h => posE_of h hw2) hwn2 (R := R)
  have hC2 := fun (hx : okK ((v, A, c), b, s, n) = true) (hy : okK ((v2, A2, c2), b2, s2, n2) = true) W h1 h2 R => ref12_Covers v v2 A A2 c c2 b b2 s s2 n n2 W h1 h2 (by have := HLV.out; omega) (by have := HLV2.out; omega) (posE_of (hok2 hy) hw2) hw1 (fun hb => by
    have := (okK_ok hx).n hb
    dsimp only at this
    omega) (R := R)
  have hP := fun W h R => dotted_Plain v A c W h (by have := HLV.out; omega) (R := R)
  have hx0 : okK ((v, A, c), b, s, n) = decide (checkK v b s n = 0) := rfl
  have hy0 : okK ((v2, A2, c2), b2, s2, n2) = decide (checkK v2 b2 s2 n2 = 0) := rfl
  generalize okK ((v, A, c), b, s, n) = x at *
  generalize okK ((v2, A2, c2), b2, s2, n2) = y at *
  generalize checkK v b s n = ca at *
  generalize checkK v2 b2 s2 n2 = cb at *
  generalize sameK v b s n v2 b2 s2 n2 = sm at *
  generalize knowsR v b s n k m = kn at *
  generalize coversR v b s n v2 b2 s2 n2 = cv at *
  have HX0 := Lib.hid hx0
  have HY0 := Lib.hid hy0
  clear hx0 hy0 hok2 hw1 hw2 hwn hwn2 hm
  go_upto_region 5 with fail
  clear e1 e2
  go_cut [9] (fun s9 wx => s9 = .bool x ∧ Below w3.heap.size w3 wx)
  case first =>
    go_wp2_with fail
    refine hK2 _ h1 _ ?_
    intro w4 hb4
    have hx0 := HX0.out
    clear HX0
    by_cases hz : ca = 0
    · have hzb : (ca == 0) = true := by simpa using hz
      rw [decide_eq_true hz] at hx0
      subst hx0
      clear hz
      go_wp2_with fail
      go_meet
      exact ⟨rfl, hb4⟩
    · have hzb : (ca == 0) = false := by simpa using hz
      rw [decide_eq_false hz] at hx0
      subst hx0
      clear hz
      go_wp2_with fail
      go_meet
      exact ⟨rfl, hb4⟩
  case rest =>
  obtain ⟨rfl, hbc⟩ := hcut
  replace h1 := h1.below hbc (Nat.le_refl _)
  replace h2 := h2.below hbc (Nat.le_refl _)
  replace q0 := cell_below hbc q0
  replace q1 := cell_below hbc q1
  replace q2 := cell_below hbc q2
  replace q3 := cell_below hbc q3
  replace r0 := cell_below hbc r0
  replace r1 := cell_below hbc r1
  replace r2 := cell_below hbc r2
  replace r3 := cell_below hbc r3
  replace hbxx := hbxx.trans (hbc.mono hbxx.size)
  clear hbc
  generalize wc = w4 at *
  go_upto_region 6 with fail
  go_cut [10] (fun s10 wx => s10 = .bool (x && y) ∧ Below w4.heap.size w4 wx)
  case first =>
    cases x
    · go_wp2_with fail
      go_meet
      exact ⟨rfl, Below.refl _ _⟩
    go_wp2_with fail
    refine hK3 _ h2 _ ?_
    intro w5 hb4
    have hy0 := HY0.out
    clear HY0
    by_cases hz : cb = 0
    · have hzb : (cb == 0) = true := by simpa using hz
      rw [decide_eq_true hz] at hy0
      subst hy0
      clear hz
      go_wp2_with fail
      go_meet
      exact ⟨rfl, hb4⟩
    · have hzb : (cb == 0) = false := by simpa using hz
      rw [decide_eq_false hz] at hy0
      subst hy0
      clear hz
      go_wp2_with fail
      go_meet
      exact ⟨rfl, hb4⟩
  case rest =>
  obtain ⟨rfl, hbc⟩ := hcut
  replace h1 := h1.below hbc (Nat.le_refl _)
  replace h2 := h2.below hbc (Nat.le_refl _)
  replace q0 := cell_below hbc q0
  replace q1 := cell_below hbc q1
  replace q2 := cell_below hbc q2
  replace q3 := cell_below hbc q3
  replace r0 := cell_below hbc r0
  replace r1 := cell_below hbc r1
  replace r2 := cell_below hbc r2
  replace r3 := cell_below hbc r3
  replace hbxx := hbxx.trans (hbc.mono hbxx.size)
  clear hbc
  generalize wc = w5 at *
  clear HX0 HY0 hK3
  go_wp2_with fail
  refine hP _ h1 _ ?_
  intro A' c' w6 hr6 hb6
  replace h1 := h1.below hb6 (Nat.le_refl _)
  replace h2 := h2.below hb6 (Nat.le_refl _)
  replace q0 := cell_below hb6 q0
  replace q1 := cell_below hb6 q1
  replace q2 := cell_below hb6 q2
  replace q3 := cell_below hb6 q3
  replace r0 := cell_below hb6 r0
  replace r1 := cell_below hb6 r1
  replace r2 := cell_below hb6 r2
  replace r3 := cell_below hb6 r3
  replace hbxx := hbxx.trans (hb6.mono hbxx.size)
  clear hb6 hP
  go_upto_region 8 with fail
  have hb7 := (Below.refl w6.heap.size w6).alloc (Nat.le_refl _) (.cells #[.slice A' v.length c', .bool false, .string ⟨#[]⟩, .int .u64 0] 84)
  replace h1 := h1.below hb7 (Nat.le_refl _)
  replace h2 := h2.below hb7 (Nat.le_refl _)
  replace q0 := cell_below hb7 q0
  replace q1 := cell_below hb7 q1
  replace q2 := cell_below hb7 q2
  replace q3 := cell_below hb7 q3
  replace r0 := cell_below hb7 r0
  replace r1 := cell_below hb7 r1
  replace r2 := cell_below hb7 r2
  replace r3 := cell_below hb7 r3
  replace hbxx := hbxx.trans (hb7.mono hbxx.size)
  replace hr6 := hr6.below hb7 (Nat.le_refl _)
  clear hb7
  have hbp := Blk.new w6 84 #[.slice A' v.length c', .bool false, .string ⟨#[]⟩, .int .u64 0]
  generalize w6.alloc (.cells #[.slice A' v.length c', .bool false, .string ⟨#[]⟩, .int .u64 0] 84) = w7 at *
  have p0 := hbp.cell 0
  have p1 := hbp.cell 1
  have p2 := hbp.cell 2
  have p3 := hbp.cell 3
  dsimp at p0 p1 p2 p3
  generalize w6.heap.size = bp at *
  clear hbp
  have hSP := fun W h h' R => ref12_Same v v A' A c' c false false ⟨#[]⟩ ⟨#[]⟩ 0 0 W h h' (by have := HLV.out; omega) (R := R)
  rw [sameK_refl] at hSP
  refine wp_region_held_drew (S := fun w' => (w').cell? ⟨bx, 0, none⟩ = some (.slice A v.length c) ∧ (w').cell? ⟨bx, 1, none⟩ = some (.bool b) ∧ (w').cell? ⟨bx, 2, none⟩ = some (.string s) ∧ (w').cell? ⟨bx, 3, none⟩ = some (.int .u64 n) ∧ (w').cell? ⟨bY, 0, none⟩ = some (.slice A2 v2.length c2) ∧ (w').cell? ⟨bY, 1, none⟩ = some (.bool b2) ∧ (w').cell? ⟨bY, 2, none⟩ = some (.string s2) ∧ (w').cell? ⟨bY, 3, none⟩ = some (.int .u64 n2) ∧ (w').cell? ⟨bp, 0, none⟩ = some (.slice A' v.length c') ∧ (w').cell? ⟨bp, 1, none⟩ = some (.bool false) ∧ (w').cell? ⟨bp, 2, none⟩ = some (.string ⟨#[]⟩) ∧ (w').cell? ⟨bp, 3, none⟩ = some (.int .u64 0) ∧ Row (w') A (flat enC v) ∧ Row (w') A2 (flat enC v2) ∧ Row (w') A' (flat enC v) ∧ Below w.heap.size w (w')) (by kernel_rfl) ⟨q0, q1, q2, q3, r0, r1, r2, r3, p0, p1, p2, p3, h1, h2, hr6, below_drewN hbxx _⟩ (fun hHeld => ?_)
  clear q0 q1 q2 q3 r0 r1 r2 r3 p0 p1 p2 p3 h1 h2 hr6 hbxx
  first
    | (refine held_take (i := 0) (v := ?_) rfl (by kernel_rfl) (by kernel_rfl) (by kernel_rfl) (fun _ _ _ h => h) (by rfl) (by assumption) (fun w hSw => ?_) ?_
       rotate_left
       · (try dsimp only at hSw)
         go_simp
         try with_reducible rfl
       try simp only [Act.put, List.setIfInBounds_toArray, List.set_cons_zero, List.set_cons_succ])
    | (refine held_skip (i := 0) rfl (by kernel_rfl) (by kernel_rfl) (by kernel_rfl) (fun _ _ _ h => h) (by rfl) (by assumption) ?_
       try simp only [Act.put, List.setIfInBounds_toArray, List.set_cons_zero, List.set_cons_succ])
  first
    | (refine held_take (i := 2) (v := ?_) rfl (by kernel_rfl) (by kernel_rfl) (by kernel_rfl) (fun _ _ _ h => h) (by rfl) (by assumption) (fun w hSw => ?_) ?_
       rotate_left
       · (try dsimp only at hSw)
         go_simp
         try with_reducible rfl
       try simp only [Act.put, List.setIfInBounds_toArray, List.set_cons_zero, List.set_cons_succ])
    | (refine held_skip (i := 2) rfl (by kernel_rfl) (by kernel_rfl) (by kernel_rfl) (fun _ _ _ h => h) (by rfl) (by assumption) ?_
       try simp only [Act.put, List.setIfInBounds_toArray, List.set_cons_zero, List.set_cons_succ])
  refine wpAnyH_ready (rs := [1]) (by kernel_rfl) (by simp) ?_
  refine held_cons (i := 1) rfl (by rfl) (fun K hK => ?_) AllReadyH.nil
  go_simp
  refine hK1 _ hHeld.2.2.2.2.2.2.2.2.2.2.2.2.1 _ ?_
  intro wd hbd
  refine hK.out _ _ (tells_below bx bY bp hHeld hbd) (fun hHeld => ?_)
  clear hK K
  try simp only [Act.put, List.setIfInBounds_toArray, List.set_cons_zero, List.set_cons_succ]
  clear hbd
  refine wpAnyH_ready (rs := [3]) (by kernel_rfl) (by simp) ?_
  refine held_cons (i := 3) rfl (by rfl) (fun K hK => ?_) AllReadyH.nil
  go_simp
  refine hK2 _ hHeld.2.2.2.2.2.2.2.2.2.2.2.2.1 _ ?_
  intro wd hbd
  refine hK.out _ _ (tells_below bx bY bp hHeld hbd) (fun hHeld => ?_)
  clear hK K
  try simp only [Act.put, List.setIfInBounds_toArray, List.set_cons_zero, List.set_cons_succ]
  clear hbd
  clear hK1 hK2
  first
    | (refine held_take (i := 4) (v := ?_) rfl (by kernel_rfl) (by kernel_rfl) (by kernel_rfl) (fun _ _ _ h => h) (by rfl) (by assumption) (fun w hSw => ?_) ?_
       rotate_left
       · (try dsimp only at hSw)
         go_simp
         try with_reducible rfl
       try simp only [Act.put, List.setIfInBounds_toArray, List.set_cons_zero, List.set_cons_succ])
    | (refine held_skip (i := 4) rfl (by kernel_rfl) (by kernel_rfl) (by kernel_rfl) (fun _ _ _ h => h) (by rfl) (by assumption) ?_
       try simp only [Act.put, List.setIfInBounds_toArray, List.set_cons_zero, List.set_cons_succ])
  first
    | (refine held_take (i := 5) (v := ?_) rfl (by kernel_rfl) (by kernel_rfl) (by kernel_rfl) (fun _ _ _ h => h) (by rfl) (by assumption) (fun w hSw => ?_) ?_
       rotate_left
       · (try dsimp only at hSw)
         go_simp
         try with_reducible rfl
       try simp only [Act.put, List.setIfInBounds_toArray, List.set_cons_zero, List.set_cons_succ])
    | (refine held_skip (i := 5) rfl (by kernel_rfl) (by kernel_rfl) (by kernel_rfl) (fun _ _ _ h => h) (by rfl) (by assumption) ?_
       try simp only [Act.put, List.setIfInBounds_toArray, List.set_cons_zero, List.set_cons_succ])
  first
    | (refine held_take (i := 6) (v := ?_) rfl (by kernel_rfl) (by kernel_rfl) (by kernel_rfl) (fun _ _ _ h => h) (by rfl) (by assumption) (fun w hSw => ?_) ?_
       rotate_left
       · (try dsimp only at hSw)
         go_simp
         try with_reducible rfl
       try simp only [Act.put, List.setIfInBounds_toArray, List.set_cons_zero, List.set_cons_succ])
    | (refine held_skip (i := 6) rfl (by kernel_rfl) (by kernel_rfl) (by kernel_rfl) (fun _ _ _ h => h) (by rfl) (by assumption) ?_
       try simp only [Act.put, List.setIfInBounds_toArray, List.set_cons_zero, List.set_cons_succ])
  first
    | (refine held_take (i := 7) (v := ?_) rfl (by kernel_rfl) (by kernel_rfl) (by kernel_rfl) (fun _ _ _ h => h) (by rfl) (by assumption) (fun w hSw => ?_) ?_
       rotate_left
       · (try dsimp only at hSw)
         go_simp
         try with_reducible rfl
       try simp only [Act.put, List.setIfInBounds_toArray, List.set_cons_zero, List.set_cons_succ])
    | (refine held_skip (i := 7) rfl (by kernel_rfl) (by kernel_rfl) (by kernel_rfl) (fun _ _ _ h => h) (by rfl) (by assumption) ?_
       try simp only [Act.put, List.setIfInBounds_toArray, List.set_cons_zero, List.set_cons_succ])
  first
    | (refine held_take (i := 9) (v := ?_) rfl (by kernel_rfl) (by kernel_rfl) (by kernel_rfl) (fun _ _ _ h => h) (by rfl) (by assumption) (fun w hSw => ?_) ?_
       rotate_left
       · (try dsimp only at hSw)
         go_simp
         try with_reducible rfl
       try simp only [Act.put, List.setIfInBounds_toArray, List.set_cons_zero, List.set_cons_succ])
    | (refine held_skip (i := 9) rfl (by kernel_rfl) (by kernel_rfl) (by kernel_rfl) (fun _ _ _ h => h) (by rfl) (by assumption) ?_
       try simp only [Act.put, List.setIfInBounds_toArray, List.set_cons_zero, List.set_cons_succ])
  first
    | (refine held_take (i := 10) (v := ?_) rfl (by kernel_rfl) (by kernel_rfl) (by kernel_rfl) (fun _ _ _ h => h) (by rfl) (by assumption) (fun w hSw => ?_) ?_
       rotate_left
       · (try dsimp only at hSw)
         go_simp
         try with_reducible rfl
       try simp only [Act.put, List.setIfInBounds_toArray, List.set_cons_zero, List.set_cons_succ])
    | (refine held_skip (i := 10) rfl (by kernel_rfl) (by kernel_rfl) (by kernel_rfl) (fun _ _ _ h => h) (by rfl) (by assumption) ?_
       try simp only [Act.put, List.setIfInBounds_toArray, List.set_cons_zero, List.set_cons_succ])
  refine wpAnyH_ready (rs := [8]) (by kernel_rfl) (by simp) ?_
  refine held_cons (i := 8) rfl (by rfl) (fun K hK => ?_) AllReadyH.nil
  go_simp
  refine hS1 _ hHeld.2.2.2.2.2.2.2.2.2.2.2.2.1 hHeld.2.2.2.2.2.2.2.2.2.2.2.2.2.1 _ ?_
  intro wd hbd
  refine hK.out _ _ (tells_below bx bY bp hHeld hbd) (fun hHeld => ?_)
  clear hK K
  try simp only [Act.put, List.setIfInBounds_toArray, List.set_cons_zero, List.set_cons_succ]
  clear hbd
  refine wpAnyH_ready (rs := [11]) (by kernel_rfl) (by simp) ?_
  refine held_cons (i := 11) rfl (by rfl) (fun K hK => ?_) AllReadyH.nil
  go_simp
  refine hS2 _ hHeld.2.2.2.2.2.2.2.2.2.2.2.2.1 hHeld.2.2.2.2.2.2.2.2.2.2.2.2.2.1 _ ?_
  intro wd hbd
  refine hK.out _ _ (tells_below bx bY bp hHeld hbd) (fun hHeld => ?_)
  clear hK K
  try simp only [Act.put, List.setIfInBounds_toArray, List.set_cons_zero, List.set_cons_succ]
  clear hbd
  clear hS1 hS2
  first
    | (refine held_take (i := 12) (v := ?_) rfl (by kernel_rfl) (by kernel_rfl) (by kernel_rfl) (fun _ _ _ h => h) (by rfl) (by assumption) (fun w hSw => ?_) ?_
       rotate_left
       · (try dsimp only at hSw)
         go_simp
         try with_reducible rfl
       try simp only [Act.put, List.setIfInBounds_toArray, List.set_cons_zero, List.set_cons_succ])
    | (refine held_skip (i := 12) rfl (by kernel_rfl) (by kernel_rfl) (by kernel_rfl) (fun _ _ _ h => h) (by rfl) (by assumption) ?_
       try simp only [Act.put, List.setIfInBounds_toArray, List.set_cons_zero, List.set_cons_succ])
  first
    | (refine held_take (i := 13) (v := ?_) rfl (by kernel_rfl) (by kernel_rfl) (by kernel_rfl) (fun _ _ _ h => h) (by rfl) (by assumption) (fun w hSw => ?_) ?_
       rotate_left
       · (try dsimp only at hSw)
         go_simp
         try with_reducible rfl
       try simp only [Act.put, List.setIfInBounds_toArray, List.set_cons_zero, List.set_cons_succ])
    | (refine held_skip (i := 13) rfl (by kernel_rfl) (by kernel_rfl) (by kernel_rfl) (fun _ _ _ h => h) (by rfl) (by assumption) ?_
       try simp only [Act.put, List.setIfInBounds_toArray, List.set_cons_zero, List.set_cons_succ])
  first
    | (refine held_take (i := 14) (v := ?_) rfl (by kernel_rfl) (by kernel_rfl) (by kernel_rfl) (fun _ _ _ h => h) (by rfl) (by assumption) (fun w hSw => ?_) ?_
       rotate_left
       · (try dsimp only at hSw)
         go_simp
         try with_reducible rfl
       try simp only [Act.put, List.setIfInBounds_toArray, List.set_cons_zero, List.set_cons_succ])
    | (refine held_skip (i := 14) rfl (by kernel_rfl) (by kernel_rfl) (by kernel_rfl) (fun _ _ _ h => h) (by rfl) (by assumption) ?_
       try simp only [Act.put, List.setIfInBounds_toArray, List.set_cons_zero, List.set_cons_succ])
  first
    | (refine held_take (i := 15) (v := ?_) rfl (by kernel_rfl) (by kernel_rfl) (by kernel_rfl) (fun _ _ _ h => h) (by rfl) (by assumption) (fun w hSw => ?_) ?_
       rotate_left
       · (try dsimp only at hSw)
         go_simp
         try with_reducible rfl
       try simp only [Act.put, List.setIfInBounds_toArray, List.set_cons_zero, List.set_cons_succ])
    | (refine held_skip (i := 15) rfl (by kernel_rfl) (by kernel_rfl) (by kernel_rfl) (fun _ _ _ h => h) (by rfl) (by assumption) ?_
       try simp only [Act.put, List.setIfInBounds_toArray, List.set_cons_zero, List.set_cons_succ])
  first
    | (refine held_take (i := 16) (v := ?_) rfl (by kernel_rfl) (by kernel_rfl) (by kernel_rfl) (fun _ _ _ h => h) (by rfl) (by assumption) (fun w hSw => ?_) ?_
       rotate_left
       · (try dsimp only at hSw)
         go_simp
         try with_reducible rfl
       try simp only [Act.put, List.setIfInBounds_toArray, List.set_cons_zero, List.set_cons_succ])
    | (refine held_skip (i := 16) rfl (by kernel_rfl) (by kernel_rfl) (by kernel_rfl) (fun _ _ _ h => h) (by rfl) (by assumption) ?_
       try simp only [Act.put, List.setIfInBounds_toArray, List.set_cons_zero, List.set_cons_succ])
  first
    | (refine held_take (i := 17) (v := ?_) rfl (by kernel_rfl) (by kernel_rfl) (by kernel_rfl) (fun _ _ _ h => h) (by rfl) (by assumption) (fun w hSw => ?_) ?_
       rotate_left
       · (try dsimp only at hSw)
         go_simp
         try with_reducible rfl
       try simp only [Act.put, List.setIfInBounds_toArray, List.set_cons_zero, List.set_cons_succ])
    | (refine held_skip (i := 17) rfl (by kernel_rfl) (by kernel_rfl) (by kernel_rfl) (fun _ _ _ h => h) (by rfl) (by assumption) ?_
       try simp only [Act.put, List.setIfInBounds_toArray, List.set_cons_zero, List.set_cons_succ])
  first
    | (refine held_take (i := 19) (v := ?_) rfl (by kernel_rfl) (by kernel_rfl) (by kernel_rfl) (fun _ _ _ h => h) (by rfl) (by assumption) (fun w hSw => ?_) ?_
       rotate_left
       · (try dsimp only at hSw)
         go_simp
         try with_reducible rfl
       try simp only [Act.put, List.setIfInBounds_toArray, List.set_cons_zero, List.set_cons_succ])
    | (refine held_skip (i := 19) rfl (by kernel_rfl) (by kernel_rfl) (by kernel_rfl) (fun _ _ _ h => h) (by rfl) (by assumption) ?_
       try simp only [Act.put, List.setIfInBounds_toArray, List.set_cons_zero, List.set_cons_succ])
  cases x
  · clear hC2 hN2
    simp only [Bool.false_and] at hN1 hC1
    refine wpAnyH_ready (rs := [18]) (by kernel_rfl) (by simp) ?_
    refine held_cons (i := 18) rfl (by rfl) (fun K hK => ?_) AllReadyH.nil
    go_simp
    refine hN1 _ hHeld.2.2.2.2.2.2.2.2.2.2.2.2.1 _ ?_
    intro wd hbd
    refine hK.out _ _ (tells_below bx bY bp hHeld hbd) (fun hHeld => ?_)
    clear hK K
    try simp only [Act.put, List.setIfInBounds_toArray, List.set_cons_zero, List.set_cons_succ]
    clear hbd
    first
      | (refine held_take (i := 20) (v := ?_) rfl (by kernel_rfl) (by kernel_rfl) (by kernel_rfl) (fun _ _ _ h => h) (by rfl) (by assumption) (fun w hSw => ?_) ?_
         rotate_left
         · (try dsimp only at hSw)
           go_simp
           try with_reducible rfl
         try simp only [Act.put, List.setIfInBounds_toArray, List.set_cons_zero, List.set_cons_succ])
      | (refine held_skip (i := 20) rfl (by kernel_rfl) (by kernel_rfl) (by kernel_rfl) (fun _ _ _ h => h) (by rfl) (by assumption) ?_
         try simp only [Act.put, List.setIfInBounds_toArray, List.set_cons_zero, List.set_cons_succ])
    first
      | (refine held_take (i := 21) (v := ?_) rfl (by kernel_rfl) (by kernel_rfl) (by kernel_rfl) (fun _ _ _ h => h) (by rfl) (by assumption) (fun w hSw => ?_) ?_
         rotate_left
         · (try dsimp only at hSw)
           go_simp
           try with_reducible rfl
         try simp only [Act.put, List.setIfInBounds_toArray, List.set_cons_zero, List.set_cons_succ])
      | (refine held_skip (i := 21) rfl (by kernel_rfl) (by kernel_rfl) (by kernel_rfl) (fun _ _ _ h => h) (by rfl) (by assumption) ?_
         try simp only [Act.put, List.setIfInBounds_toArray, List.set_cons_zero, List.set_cons_succ])
    first
      | (refine held_take (i := 22) (v := ?_) rfl (by kernel_rfl) (by kernel_rfl) (by kernel_rfl) (fun _ _ _ h => h) (by rfl) (by assumption) (fun w hSw => ?_) ?_
         rotate_left
         · (try dsimp only at hSw)
           go_simp
           try with_reducible rfl
         try simp only [Act.put, List.setIfInBounds_toArray, List.set_cons_zero, List.set_cons_succ])
      | (refine held_skip (i := 22) rfl (by kernel_rfl) (by kernel_rfl) (by kernel_rfl) (fun _ _ _ h => h) (by rfl) (by assumption) ?_
         try simp only [Act.put, List.setIfInBounds_toArray, List.set_cons_zero, List.set_cons_succ])
    first
      | (refine held_take (i := 23) (v := ?_) rfl (by kernel_rfl) (by kernel_rfl) (by kernel_rfl) (fun _ _ _ h => h) (by rfl) (by assumption) (fun w hSw => ?_) ?_
         rotate_left
         · (try dsimp only at hSw)
           go_simp
           try with_reducible rfl
         try simp only [Act.put, List.setIfInBounds_toArray, List.set_cons_zero, List.set_cons_succ])
      | (refine held_skip (i := 23) rfl (by kernel_rfl) (by kernel_rfl) (by kernel_rfl) (fun _ _ _ h => h) (by rfl) (by assumption) ?_
         try simp only [Act.put, List.setIfInBounds_toArray, List.set_cons_zero, List.set_cons_succ])
    first
      | (refine held_take (i := 24) (v := ?_) rfl (by kernel_rfl) (by kernel_rfl) (by kernel_rfl) (fun _ _ _ h => h) (by rfl) (by assumption) (fun w hSw => ?_) ?_
         rotate_left
         · (try dsimp only at hSw)
           go_simp
           try with_reducible rfl
         try simp only [Act.put, List.setIfInBounds_toArray, List.set_cons_zero, List.set_cons_succ])
      | (refine held_skip (i := 24) rfl (by kernel_rfl) (by kernel_rfl) (by kernel_rfl) (fun _ _ _ h => h) (by rfl) (by assumption) ?_
         try simp only [Act.put, List.setIfInBounds_toArray, List.set_cons_zero, List.set_cons_succ])
    first
      | (refine held_take (i := 25) (v := ?_) rfl (by kernel_rfl) (by kernel_rfl) (by kernel_rfl) (fun _ _ _ h => h) (by rfl) (by assumption) (fun w hSw => ?_) ?_
         rotate_left
         · (try dsimp only at hSw)
           go_simp
           try with_reducible rfl
         try simp only [Act.put, List.setIfInBounds_toArray, List.set_cons_zero, List.set_cons_succ])
      | (refine held_skip (i := 25) rfl (by kernel_rfl) (by kernel_rfl) (by kernel_rfl) (fun _ _ _ h => h) (by rfl) (by assumption) ?_
         try simp only [Act.put, List.setIfInBounds_toArray, List.set_cons_zero, List.set_cons_succ])
    first
      | (refine held_take (i := 26) (v := ?_) rfl (by kernel_rfl) (by kernel_rfl) (by kernel_rfl) (fun _ _ _ h => h) (by rfl) (by assumption) (fun w hSw => ?_) ?_
         rotate_left
         · (try dsimp only at hSw)
           go_simp
           try with_reducible rfl
         try simp only [Act.put, List.setIfInBounds_toArray, List.set_cons_zero, List.set_cons_succ])
      | (refine held_skip (i := 26) rfl (by kernel_rfl) (by kernel_rfl) (by kernel_rfl) (fun _ _ _ h => h) (by rfl) (by assumption) ?_
         try simp only [Act.put, List.setIfInBounds_toArray, List.set_cons_zero, List.set_cons_succ])
    first
      | (refine held_take (i := 27) (v := ?_) rfl (by kernel_rfl) (by kernel_rfl) (by kernel_rfl) (fun _ _ _ h => h) (by rfl) (by assumption) (fun w hSw => ?_) ?_
         rotate_left
         · (try dsimp only at hSw)
           go_simp
           try with_reducible rfl
         try simp only [Act.put, List.setIfInBounds_toArray, List.set_cons_zero, List.set_cons_succ])
      | (refine held_skip (i := 27) rfl (by kernel_rfl) (by kernel_rfl) (by kernel_rfl) (fun _ _ _ h => h) (by rfl) (by assumption) ?_
         try simp only [Act.put, List.setIfInBounds_toArray, List.set_cons_zero, List.set_cons_succ])
    first
      | (refine held_take (i := 28) (v := ?_) rfl (by kernel_rfl) (by kernel_rfl) (by kernel_rfl) (fun _ _ _ h => h) (by rfl) (by assumption) (fun w hSw => ?_) ?_
         rotate_left
         · (try dsimp only at hSw)
           go_simp
           try with_reducible rfl
         try simp only [Act.put, List.setIfInBounds_toArray, List.set_cons_zero, List.set_cons_succ])
      | (refine held_skip (i := 28) rfl (by kernel_rfl) (by kernel_rfl) (by kernel_rfl) (fun _ _ _ h => h) (by rfl) (by assumption) ?_
         try simp only [Act.put, List.setIfInBounds_toArray, List.set_cons_zero, List.set_cons_succ])
    first
      | (refine held_take (i := 29) (v := ?_) rfl (by kernel_rfl) (by kernel_rfl) (by kernel_rfl) (fun _ _ _ h => h) (by rfl) (by assumption) (fun w hSw => ?_) ?_
         rotate_left
         · (try dsimp only at hSw)
           go_simp
           try with_reducible rfl
         try simp only [Act.put, List.setIfInBounds_toArray, List.set_cons_zero, List.set_cons_succ])
      | (refine held_skip (i := 29) rfl (by kernel_rfl) (by kernel_rfl) (by kernel_rfl) (fun _ _ _ h => h) (by rfl) (by assumption) ?_
         try simp only [Act.put, List.setIfInBounds_toArray, List.set_cons_zero, List.set_cons_succ])
    first
      | (refine held_take (i := 30) (v := ?_) rfl (by kernel_rfl) (by kernel_rfl) (by kernel_rfl) (fun _ _ _ h => h) (by rfl) (by assumption) (fun w hSw => ?_) ?_
         rotate_left
         · (try dsimp only at hSw)
           go_simp
           try with_reducible rfl
         try simp only [Act.put, List.setIfInBounds_toArray, List.set_cons_zero, List.set_cons_succ])
      | (refine held_skip (i := 30) rfl (by kernel_rfl) (by kernel_rfl) (by kernel_rfl) (fun _ _ _ h => h) (by rfl) (by assumption) ?_
         try simp only [Act.put, List.setIfInBounds_toArray, List.set_cons_zero, List.set_cons_succ])
    first
      | (refine held_take (i := 32) (v := ?_) rfl (by kernel_rfl) (by kernel_rfl) (by kernel_rfl) (fun _ _ _ h => h) (by rfl) (by assumption) (fun w hSw => ?_) ?_
         rotate_left
         · (try dsimp only at hSw)
           go_simp
           try with_reducible rfl
         try simp only [Act.put, List.setIfInBounds_toArray, List.set_cons_zero, List.set_cons_succ])
      | (refine held_skip (i := 32) rfl (by kernel_rfl) (by kernel_rfl) (by kernel_rfl) (fun _ _ _ h => h) (by rfl) (by assumption) ?_
         try simp only [Act.put, List.setIfInBounds_toArray, List.set_cons_zero, List.set_cons_succ])
    refine wpAnyH_ready (rs := [31]) (by kernel_rfl) (by simp) ?_
    refine held_cons (i := 31) rfl (by rfl) (fun K hK => ?_) AllReadyH.nil
    go_simp
    refine hC1 _ hHeld.2.2.2.2.2.2.2.2.2.2.2.2.1 hHeld.2.2.2.2.2.2.2.2.2.2.2.2.2.1 _ ?_
    intro wd hbd
    refine hK.out _ _ (tells_below bx bY bp hHeld hbd) (fun hHeld => ?_)
    clear hK K
    try simp only [Act.put, List.setIfInBounds_toArray, List.set_cons_zero, List.set_cons_succ]
    clear hbd
    first
      | (refine held_take (i := 33) (v := ?_) rfl (by kernel_rfl) (by kernel_rfl) (by kernel_rfl) (fun _ _ _ h => h) (by rfl) (by assumption) (fun w hSw => ?_) ?_
         rotate_left
         · (try dsimp only at hSw)
           go_simp
           try with_reducible rfl
         try simp only [Act.put, List.setIfInBounds_toArray, List.set_cons_zero, List.set_cons_succ])
      | (refine held_skip (i := 33) rfl (by kernel_rfl) (by kernel_rfl) (by kernel_rfl) (fun _ _ _ h => h) (by rfl) (by assumption) ?_
         try simp only [Act.put, List.setIfInBounds_toArray, List.set_cons_zero, List.set_cons_succ])
    first
      | (refine held_take (i := 34) (v := ?_) rfl (by kernel_rfl) (by kernel_rfl) (by kernel_rfl) (fun _ _ _ h => h) (by rfl) (by assumption) (fun w hSw => ?_) ?_
         rotate_left
         · (try dsimp only at hSw)
           go_simp
           try with_reducible rfl
         try simp only [Act.put, List.setIfInBounds_toArray, List.set_cons_zero, List.set_cons_succ])
      | (refine held_skip (i := 34) rfl (by kernel_rfl) (by kernel_rfl) (by kernel_rfl) (fun _ _ _ h => h) (by rfl) (by assumption) ?_
         try simp only [Act.put, List.setIfInBounds_toArray, List.set_cons_zero, List.set_cons_succ])
    first
      | (refine held_take (i := 35) (v := ?_) rfl (by kernel_rfl) (by kernel_rfl) (by kernel_rfl) (fun _ _ _ h => h) (by rfl) (by assumption) (fun w hSw => ?_) ?_
         rotate_left
         · (try dsimp only at hSw)
           go_simp
           try with_reducible rfl
         try simp only [Act.put, List.setIfInBounds_toArray, List.set_cons_zero, List.set_cons_succ])
      | (refine held_skip (i := 35) rfl (by kernel_rfl) (by kernel_rfl) (by kernel_rfl) (fun _ _ _ h => h) (by rfl) (by assumption) ?_
         try simp only [Act.put, List.setIfInBounds_toArray, List.set_cons_zero, List.set_cons_succ])
    first
      | (refine held_take (i := 36) (v := ?_) rfl (by kernel_rfl) (by kernel_rfl) (by kernel_rfl) (fun _ _ _ h => h) (by rfl) (by assumption) (fun w hSw => ?_) ?_
         rotate_left
         · (try dsimp only at hSw)
           go_simp
           try with_reducible rfl
         try simp only [Act.put, List.setIfInBounds_toArray, List.set_cons_zero, List.set_cons_succ])
      | (refine held_skip (i := 36) rfl (by kernel_rfl) (by kernel_rfl) (by kernel_rfl) (fun _ _ _ h => h) (by rfl) (by assumption) ?_
         try simp only [Act.put, List.setIfInBounds_toArray, List.set_cons_zero, List.set_cons_succ])
    first
      | (refine held_take (i := 37) (v := ?_) rfl (by kernel_rfl) (by kernel_rfl) (by kernel_rfl) (fun _ _ _ h => h) (by rfl) (by assumption) (fun w hSw => ?_) ?_
         rotate_left
         · (try dsimp only at hSw)
           go_simp
           try with_reducible rfl
         try simp only [Act.put, List.setIfInBounds_toArray, List.set_cons_zero, List.set_cons_succ])
      | (refine held_skip (i := 37) rfl (by kernel_rfl) (by kernel_rfl) (by kernel_rfl) (fun _ _ _ h => h) (by rfl) (by assumption) ?_
         try simp only [Act.put, List.setIfInBounds_toArray, List.set_cons_zero, List.set_cons_succ])
    first
      | (refine held_take (i := 38) (v := ?_) rfl (by kernel_rfl) (by kernel_rfl) (by kernel_rfl) (fun _ _ _ h => h) (by rfl) (by assumption) (fun w hSw => ?_) ?_
         rotate_left
         · (try dsimp only at hSw)
           go_simp
           try with_reducible rfl
         try simp only [Act.put, List.setIfInBounds_toArray, List.set_cons_zero, List.set_cons_succ])
      | (refine held_skip (i := 38) rfl (by kernel_rfl) (by kernel_rfl) (by kernel_rfl) (fun _ _ _ h => h) (by rfl) (by assumption) ?_
         try simp only [Act.put, List.setIfInBounds_toArray, List.set_cons_zero, List.set_cons_succ])
    first
      | (refine held_take (i := 39) (v := ?_) rfl (by kernel_rfl) (by kernel_rfl) (by kernel_rfl) (fun _ _ _ h => h) (by rfl) (by assumption) (fun w hSw => ?_) ?_
         rotate_left
         · (try dsimp only at hSw)
           go_simp
           try with_reducible rfl
         try simp only [Act.put, List.setIfInBounds_toArray, List.set_cons_zero, List.set_cons_succ])
      | (refine held_skip (i := 39) rfl (by kernel_rfl) (by kernel_rfl) (by kernel_rfl) (fun _ _ _ h => h) (by rfl) (by assumption) ?_
         try simp only [Act.put, List.setIfInBounds_toArray, List.set_cons_zero, List.set_cons_succ])
    first
      | (refine held_take (i := 40) (v := ?_) rfl (by kernel_rfl) (by kernel_rfl) (by kernel_rfl) (fun _ _ _ h => h) (by rfl) (by assumption) (fun w hSw => ?_) ?_
         rotate_left
         · (try dsimp only at hSw)
           go_simp
           try with_reducible rfl
         try simp only [Act.put, List.setIfInBounds_toArray, List.set_cons_zero, List.set_cons_succ])
      | (refine held_skip (i := 40) rfl (by kernel_rfl) (by kernel_rfl) (by kernel_rfl) (fun _ _ _ h => h) (by rfl) (by assumption) ?_
         try simp only [Act.put, List.setIfInBounds_toArray, List.set_cons_zero, List.set_cons_succ])
    first
      | (refine held_take (i := 41) (v := ?_) rfl (by kernel_rfl) (by kernel_rfl) (by kernel_rfl) (fun _ _ _ h => h) (by rfl) (by assumption) (fun w hSw => ?_) ?_
         rotate_left
         · (try dsimp only at hSw)
           go_simp
           try with_reducible rfl
         try simp only [Act.put, List.setIfInBounds_toArray, List.set_cons_zero, List.set_cons_succ])
      | (refine held_skip (i := 41) rfl (by kernel_rfl) (by kernel_rfl) (by kernel_rfl) (fun _ _ _ h => h) (by rfl) (by assumption) ?_
         try simp only [Act.put, List.setIfInBounds_toArray, List.set_cons_zero, List.set_cons_succ])
    first
      | (refine held_take (i := 42) (v := ?_) rfl (by kernel_rfl) (by kernel_rfl) (by kernel_rfl) (fun _ _ _ h => h) (by rfl) (by assumption) (fun w hSw => ?_) ?_
         rotate_left
         · (try dsimp only at hSw)
           go_simp
           try with_reducible rfl
         try simp only [Act.put, List.setIfInBounds_toArray, List.set_cons_zero, List.set_cons_succ])
      | (refine held_skip (i := 42) rfl (by kernel_rfl) (by kernel_rfl) (by kernel_rfl) (fun _ _ _ h => h) (by rfl) (by assumption) ?_
         try simp only [Act.put, List.setIfInBounds_toArray, List.set_cons_zero, List.set_cons_succ])
    first
      | (refine held_take (i := 43) (v := ?_) rfl (by kernel_rfl) (by kernel_rfl) (by kernel_rfl) (fun _ _ _ h => h) (by rfl) (by assumption) (fun w hSw => ?_) ?_
         rotate_left
         · (try dsimp only at hSw)
           go_simp
           try with_reducible rfl
         try simp only [Act.put, List.setIfInBounds_toArray, List.set_cons_zero, List.set_cons_succ])
      | (refine held_skip (i := 43) rfl (by kernel_rfl) (by kernel_rfl) (by kernel_rfl) (fun _ _ _ h => h) (by rfl) (by assumption) ?_
         try simp only [Act.put, List.setIfInBounds_toArray, List.set_cons_zero, List.set_cons_succ])
    first
      | (refine held_take (i := 44) (v := ?_) rfl (by kernel_rfl) (by kernel_rfl) (by kernel_rfl) (fun _ _ _ h => h) (by rfl) (by assumption) (fun w hSw => ?_) ?_
         rotate_left
         · (try dsimp only at hSw)
           go_simp
           try with_reducible rfl
         try simp only [Act.put, List.setIfInBounds_toArray, List.set_cons_zero, List.set_cons_succ])
      | (refine held_skip (i := 44) rfl (by kernel_rfl) (by kernel_rfl) (by kernel_rfl) (fun _ _ _ h => h) (by rfl) (by assumption) ?_
         try simp only [Act.put, List.setIfInBounds_toArray, List.set_cons_zero, List.set_cons_succ])
    refine wpAnyH_ready (rs := [45]) (by kernel_rfl) (by simp) ?_
    refine held_cons (i := 45) rfl (by rfl) (fun K hK => ?_) AllReadyH.nil
    go_simp
    refine hSP _ hHeld.2.2.2.2.2.2.2.2.2.2.2.2.2.2.1 hHeld.2.2.2.2.2.2.2.2.2.2.2.2.1 _ ?_
    intro wd hbd
    refine hK.out _ _ (tells_below bx bY bp hHeld hbd) (fun hHeld => ?_)
    clear hK K
    try simp only [Act.put, List.setIfInBounds_toArray, List.set_cons_zero, List.set_cons_succ]
    clear hbd
    first
      | (refine held_take (i := 46) (v := ?_) rfl (by kernel_rfl) (by kernel_rfl) (by kernel_rfl) (fun _ _ _ h => h) (by rfl) (by assumption) (fun w hSw => ?_) ?_
         rotate_left
         · (try dsimp only at hSw)
           go_simp
           try with_reducible rfl
         try simp only [Act.put, List.setIfInBounds_toArray, List.set_cons_zero, List.set_cons_succ])
      | (refine held_skip (i := 46) rfl (by kernel_rfl) (by kernel_rfl) (by kernel_rfl) (fun _ _ _ h => h) (by rfl) (by assumption) ?_
         try simp only [Act.put, List.setIfInBounds_toArray, List.set_cons_zero, List.set_cons_succ])
    first
      | (refine held_take (i := 47) (v := ?_) rfl (by kernel_rfl) (by kernel_rfl) (by kernel_rfl) (fun _ _ _ h => h) (by rfl) (by assumption) (fun w hSw => ?_) ?_
         rotate_left
         · (try dsimp only at hSw)
           go_simp
           try with_reducible rfl
         try simp only [Act.put, List.setIfInBounds_toArray, List.set_cons_zero, List.set_cons_succ])
      | (refine held_skip (i := 47) rfl (by kernel_rfl) (by kernel_rfl) (by kernel_rfl) (fun _ _ _ h => h) (by rfl) (by assumption) ?_
         try simp only [Act.put, List.setIfInBounds_toArray, List.set_cons_zero, List.set_cons_succ])
    have hbf := hHeld.2.2.2.2.2.2.2.2.2.2.2.2.2.2.2
    refine wpAnyH_done (by kernel_rfl) ?_ _
    go_wp2_with fail
    first | exact ⟨rfl, hbf⟩ | (go_ret; exact ⟨rfl, hbf⟩)
  simp only [Bool.true_and] at hN1 hC1
  refine wpAnyH_ready (rs := [18]) (by kernel_rfl) (by simp) ?_
  refine held_cons (i := 18) rfl (by rfl) (fun K hK => ?_) AllReadyH.nil
  go_simp
  refine hN1 _ hHeld.2.2.2.2.2.2.2.2.2.2.2.2.1 _ ?_
  intro wd hbd
  refine hK.out _ _ (tells_below bx bY bp hHeld hbd) (fun hHeld => ?_)
  clear hK K
  try simp only [Act.put, List.setIfInBounds_toArray, List.set_cons_zero, List.set_cons_succ]
  clear hbd
  first
    | (refine held_take (i := 20) (v := ?_) rfl (by kernel_rfl) (by kernel_rfl) (by kernel_rfl) (fun _ _ _ h => h) (by rfl) (by assumption) (fun w hSw => ?_) ?_
       rotate_left
       · (try dsimp only at hSw)
         go_simp
         try with_reducible rfl
       try simp only [Act.put, List.setIfInBounds_toArray, List.set_cons_zero, List.set_cons_succ])
    | (refine held_skip (i := 20) rfl (by kernel_rfl) (by kernel_rfl) (by kernel_rfl) (fun _ _ _ h => h) (by rfl) (by assumption) ?_
       try simp only [Act.put, List.setIfInBounds_toArray, List.set_cons_zero, List.set_cons_succ])
  first
    | (refine held_take (i := 21) (v := ?_) rfl (by kernel_rfl) (by kernel_rfl) (by kernel_rfl) (fun _ _ _ h => h) (by rfl) (by assumption) (fun w hSw => ?_) ?_
       rotate_left
       · (try dsimp only at hSw)
         go_simp
         try with_reducible rfl
       try simp only [Act.put, List.setIfInBounds_toArray, List.set_cons_zero, List.set_cons_succ])
    | (refine held_skip (i := 21) rfl (by kernel_rfl) (by kernel_rfl) (by kernel_rfl) (fun _ _ _ h => h) (by rfl) (by assumption) ?_
       try simp only [Act.put, List.setIfInBounds_toArray, List.set_cons_zero, List.set_cons_succ])
  first
    | (refine held_take (i := 22) (v := ?_) rfl (by kernel_rfl) (by kernel_rfl) (by kernel_rfl) (fun _ _ _ h => h) (by rfl) (by assumption) (fun w hSw => ?_) ?_
       rotate_left
       · (try dsimp only at hSw)
         go_simp
         try with_reducible rfl
       try simp only [Act.put, List.setIfInBounds_toArray, List.set_cons_zero, List.set_cons_succ])
    | (refine held_skip (i := 22) rfl (by kernel_rfl) (by kernel_rfl) (by kernel_rfl) (fun _ _ _ h => h) (by rfl) (by assumption) ?_
       try simp only [Act.put, List.setIfInBounds_toArray, List.set_cons_zero, List.set_cons_succ])
  first
    | (refine held_take (i := 23) (v := ?_) rfl (by kernel_rfl) (by kernel_rfl) (by kernel_rfl) (fun _ _ _ h => h) (by rfl) (by assumption) (fun w hSw => ?_) ?_
       rotate_left
       · (try dsimp only at hSw)
         go_simp
         try with_reducible rfl
       try simp only [Act.put, List.setIfInBounds_toArray, List.set_cons_zero, List.set_cons_succ])
    | (refine held_skip (i := 23) rfl (by kernel_rfl) (by kernel_rfl) (by kernel_rfl) (fun _ _ _ h => h) (by rfl) (by assumption) ?_
       try simp only [Act.put, List.setIfInBounds_toArray, List.set_cons_zero, List.set_cons_succ])
  refine wpAnyH_ready (rs := [24]) (by kernel_rfl) (by simp) ?_
  refine held_cons (i := 24) rfl (by rfl) (fun K hK => ?_) AllReadyH.nil
  go_simp
  refine hN2 _ hHeld.2.2.2.2.2.2.2.2.2.2.2.2.1 _ ?_
  intro wd hbd
  refine hK.out _ _ (tells_below bx bY bp hHeld hbd) (fun hHeld => ?_)
  clear hK K
  try simp only [Act.put, List.setIfInBounds_toArray, List.set_cons_zero, List.set_cons_succ]
  clear hbd
  clear hN1 hN2
  first
    | (refine held_take (i := 25) (v := ?_) rfl (by kernel_rfl) (by kernel_rfl) (by kernel_rfl) (fun _ _ _ h => h) (by rfl) (by assumption) (fun w hSw => ?_) ?_
       rotate_left
       · (try dsimp only at hSw)
         go_simp
         try with_reducible rfl
       try simp only [Act.put, List.setIfInBounds_toArray, List.set_cons_zero, List.set_cons_succ])
    | (refine held_skip (i := 25) rfl (by kernel_rfl) (by kernel_rfl) (by kernel_rfl) (fun _ _ _ h => h) (by rfl) (by assumption) ?_
       try simp only [Act.put, List.setIfInBounds_toArray, List.set_cons_zero, List.set_cons_succ])
  first
    | (refine held_take (i := 26) (v := ?_) rfl (by kernel_rfl) (by kernel_rfl) (by kernel_rfl) (fun _ _ _ h => h) (by rfl) (by assumption) (fun w hSw => ?_) ?_
       rotate_left
       · (try dsimp only at hSw)
         go_simp
         try with_reducible rfl
       try simp only [Act.put, List.setIfInBounds_toArray, List.set_cons_zero, List.set_cons_succ])
    | (refine held_skip (i := 26) rfl (by kernel_rfl) (by kernel_rfl) (by kernel_rfl) (fun _ _ _ h => h) (by rfl) (by assumption) ?_
       try simp only [Act.put, List.setIfInBounds_toArray, List.set_cons_zero, List.set_cons_succ])
  first
    | (refine held_take (i := 27) (v := ?_) rfl (by kernel_rfl) (by kernel_rfl) (by kernel_rfl) (fun _ _ _ h => h) (by rfl) (by assumption) (fun w hSw => ?_) ?_
       rotate_left
       · (try dsimp only at hSw)
         go_simp
         try with_reducible rfl
       try simp only [Act.put, List.setIfInBounds_toArray, List.set_cons_zero, List.set_cons_succ])
    | (refine held_skip (i := 27) rfl (by kernel_rfl) (by kernel_rfl) (by kernel_rfl) (fun _ _ _ h => h) (by rfl) (by assumption) ?_
       try simp only [Act.put, List.setIfInBounds_toArray, List.set_cons_zero, List.set_cons_succ])
  first
    | (refine held_take (i := 28) (v := ?_) rfl (by kernel_rfl) (by kernel_rfl) (by kernel_rfl) (fun _ _ _ h => h) (by rfl) (by assumption) (fun w hSw => ?_) ?_
       rotate_left
       · (try dsimp only at hSw)
         go_simp
         try with_reducible rfl
       try simp only [Act.put, List.setIfInBounds_toArray, List.set_cons_zero, List.set_cons_succ])
    | (refine held_skip (i := 28) rfl (by kernel_rfl) (by kernel_rfl) (by kernel_rfl) (fun _ _ _ h => h) (by rfl) (by assumption) ?_
       try simp only [Act.put, List.setIfInBounds_toArray, List.set_cons_zero, List.set_cons_succ])
  first
    | (refine held_take (i := 29) (v := ?_) rfl (by kernel_rfl) (by kernel_rfl) (by kernel_rfl) (fun _ _ _ h => h) (by rfl) (by assumption) (fun w hSw => ?_) ?_
       rotate_left
       · (try dsimp only at hSw)
         go_simp
         try with_reducible rfl
       try simp only [Act.put, List.setIfInBounds_toArray, List.set_cons_zero, List.set_cons_succ])
    | (refine held_skip (i := 29) rfl (by kernel_rfl) (by kernel_rfl) (by kernel_rfl) (fun _ _ _ h => h) (by rfl) (by assumption) ?_
       try simp only [Act.put, List.setIfInBounds_toArray, List.set_cons_zero, List.set_cons_succ])
  first
    | (refine held_take (i := 30) (v := ?_) rfl (by kernel_rfl) (by kernel_rfl) (by kernel_rfl) (fun _ _ _ h => h) (by rfl) (by assumption) (fun w hSw => ?_) ?_
       rotate_left
       · (try dsimp only at hSw)
         go_simp
         try with_reducible rfl
       try simp only [Act.put, List.setIfInBounds_toArray, List.set_cons_zero, List.set_cons_succ])
    | (refine held_skip (i := 30) rfl (by kernel_rfl) (by kernel_rfl) (by kernel_rfl) (fun _ _ _ h => h) (by rfl) (by assumption) ?_
       try simp only [Act.put, List.setIfInBounds_toArray, List.set_cons_zero, List.set_cons_succ])
  first
    | (refine held_take (i := 32) (v := ?_) rfl (by kernel_rfl) (by kernel_rfl) (by kernel_rfl) (fun _ _ _ h => h) (by rfl) (by assumption) (fun w hSw => ?_) ?_
       rotate_left
       · (try dsimp only at hSw)
         go_simp
         try with_reducible rfl
       try simp only [Act.put, List.setIfInBounds_toArray, List.set_cons_zero, List.set_cons_succ])
    | (refine held_skip (i := 32) rfl (by kernel_rfl) (by kernel_rfl) (by kernel_rfl) (fun _ _ _ h => h) (by rfl) (by assumption) ?_
       try simp only [Act.put, List.setIfInBounds_toArray, List.set_cons_zero, List.set_cons_succ])
  cases y
  · clear hC2
    simp only [Bool.false_and] at hC1
    refine wpAnyH_ready (rs := [31]) (by kernel_rfl) (by simp) ?_
    refine held_cons (i := 31) rfl (by rfl) (fun K hK => ?_) AllReadyH.nil
    go_simp
    refine hC1 _ hHeld.2.2.2.2.2.2.2.2.2.2.2.2.1 hHeld.2.2.2.2.2.2.2.2.2.2.2.2.2.1 _ ?_
    intro wd hbd
    refine hK.out _ _ (tells_below bx bY bp hHeld hbd) (fun hHeld => ?_)
    clear hK K
    try simp only [Act.put, List.setIfInBounds_toArray, List.set_cons_zero, List.set_cons_succ]
    clear hbd
    first
      | (refine held_take (i := 33) (v := ?_) rfl (by kernel_rfl) (by kernel_rfl) (by kernel_rfl) (fun _ _ _ h => h) (by rfl) (by assumption) (fun w hSw => ?_) ?_
         rotate_left
         · (try dsimp only at hSw)
           go_simp
           try with_reducible rfl
         try simp only [Act.put, List.setIfInBounds_toArray, List.set_cons_zero, List.set_cons_succ])
      | (refine held_skip (i := 33) rfl (by kernel_rfl) (by kernel_rfl) (by kernel_rfl) (fun _ _ _ h => h) (by rfl) (by assumption) ?_
         try simp only [Act.put, List.setIfInBounds_toArray, List.set_cons_zero, List.set_cons_succ])
    first
      | (refine held_take (i := 34) (v := ?_) rfl (by kernel_rfl) (by kernel_rfl) (by kernel_rfl) (fun _ _ _ h => h) (by rfl) (by assumption) (fun w hSw => ?_) ?_
         rotate_left
         · (try dsimp only at hSw)
           go_simp
           try with_reducible rfl
         try simp only [Act.put, List.setIfInBounds_toArray, List.set_cons_zero, List.set_cons_succ])
      | (refine held_skip (i := 34) rfl (by kernel_rfl) (by kernel_rfl) (by kernel_rfl) (fun _ _ _ h => h) (by rfl) (by assumption) ?_
         try simp only [Act.put, List.setIfInBounds_toArray, List.set_cons_zero, List.set_cons_succ])
    first
      | (refine held_take (i := 35) (v := ?_) rfl (by kernel_rfl) (by kernel_rfl) (by kernel_rfl) (fun _ _ _ h => h) (by rfl) (by assumption) (fun w hSw => ?_) ?_
         rotate_left
         · (try dsimp only at hSw)
           go_simp
           try with_reducible rfl
         try simp only [Act.put, List.setIfInBounds_toArray, List.set_cons_zero, List.set_cons_succ])
      | (refine held_skip (i := 35) rfl (by kernel_rfl) (by kernel_rfl) (by kernel_rfl) (fun _ _ _ h => h) (by rfl) (by assumption) ?_
         try simp only [Act.put, List.setIfInBounds_toArray, List.set_cons_zero, List.set_cons_succ])
    first
      | (refine held_take (i := 36) (v := ?_) rfl (by kernel_rfl) (by kernel_rfl) (by kernel_rfl) (fun _ _ _ h => h) (by rfl) (by assumption) (fun w hSw => ?_) ?_
         rotate_left
         · (try dsimp only at hSw)
           go_simp
           try with_reducible rfl
         try simp only [Act.put, List.setIfInBounds_toArray, List.set_cons_zero, List.set_cons_succ])
      | (refine held_skip (i := 36) rfl (by kernel_rfl) (by kernel_rfl) (by kernel_rfl) (fun _ _ _ h => h) (by rfl) (by assumption) ?_
         try simp only [Act.put, List.setIfInBounds_toArray, List.set_cons_zero, List.set_cons_succ])
    first
      | (refine held_take (i := 37) (v := ?_) rfl (by kernel_rfl) (by kernel_rfl) (by kernel_rfl) (fun _ _ _ h => h) (by rfl) (by assumption) (fun w hSw => ?_) ?_
         rotate_left
         · (try dsimp only at hSw)
           go_simp
           try with_reducible rfl
         try simp only [Act.put, List.setIfInBounds_toArray, List.set_cons_zero, List.set_cons_succ])
      | (refine held_skip (i := 37) rfl (by kernel_rfl) (by kernel_rfl) (by kernel_rfl) (fun _ _ _ h => h) (by rfl) (by assumption) ?_
         try simp only [Act.put, List.setIfInBounds_toArray, List.set_cons_zero, List.set_cons_succ])
    first
      | (refine held_take (i := 38) (v := ?_) rfl (by kernel_rfl) (by kernel_rfl) (by kernel_rfl) (fun _ _ _ h => h) (by rfl) (by assumption) (fun w hSw => ?_) ?_
         rotate_left
         · (try dsimp only at hSw)
           go_simp
           try with_reducible rfl
         try simp only [Act.put, List.setIfInBounds_toArray, List.set_cons_zero, List.set_cons_succ])
      | (refine held_skip (i := 38) rfl (by kernel_rfl) (by kernel_rfl) (by kernel_rfl) (fun _ _ _ h => h) (by rfl) (by assumption) ?_
         try simp only [Act.put, List.setIfInBounds_toArray, List.set_cons_zero, List.set_cons_succ])
    first
      | (refine held_take (i := 39) (v := ?_) rfl (by kernel_rfl) (by kernel_rfl) (by kernel_rfl) (fun _ _ _ h => h) (by rfl) (by assumption) (fun w hSw => ?_) ?_
         rotate_left
         · (try dsimp only at hSw)
           go_simp
           try with_reducible rfl
         try simp only [Act.put, List.setIfInBounds_toArray, List.set_cons_zero, List.set_cons_succ])
      | (refine held_skip (i := 39) rfl (by kernel_rfl) (by kernel_rfl) (by kernel_rfl) (fun _ _ _ h => h) (by rfl) (by assumption) ?_
         try simp only [Act.put, List.setIfInBounds_toArray, List.set_cons_zero, List.set_cons_succ])
    first
      | (refine held_take (i := 40) (v := ?_) rfl (by kernel_rfl) (by kernel_rfl) (by kernel_rfl) (fun _ _ _ h => h) (by rfl) (by assumption) (fun w hSw => ?_) ?_
         rotate_left
         · (try dsimp only at hSw)
           go_simp
           try with_reducible rfl
         try simp only [Act.put, List.setIfInBounds_toArray, List.set_cons_zero, List.set_cons_succ])
      | (refine held_skip (i := 40) rfl (by kernel_rfl) (by kernel_rfl) (by kernel_rfl) (fun _ _ _ h => h) (by rfl) (by assumption) ?_
         try simp only [Act.put, List.setIfInBounds_toArray, List.set_cons_zero, List.set_cons_succ])
    first
      | (refine held_take (i := 41) (v := ?_) rfl (by kernel_rfl) (by kernel_rfl) (by kernel_rfl) (fun _ _ _ h => h) (by rfl) (by assumption) (fun w hSw => ?_) ?_
         rotate_left
         · (try dsimp only at hSw)
           go_simp
           try with_reducible rfl
         try simp only [Act.put, List.setIfInBounds_toArray, List.set_cons_zero, List.set_cons_succ])
      | (refine held_skip (i := 41) rfl (by kernel_rfl) (by kernel_rfl) (by kernel_rfl) (fun _ _ _ h => h) (by rfl) (by assumption) ?_
         try simp only [Act.put, List.setIfInBounds_toArray, List.set_cons_zero, List.set_cons_succ])
    first
      | (refine held_take (i := 42) (v := ?_) rfl (by kernel_rfl) (by kernel_rfl) (by kernel_rfl) (fun _ _ _ h => h) (by rfl) (by assumption) (fun w hSw => ?_) ?_
         rotate_left
         · (try dsimp only at hSw)
           go_simp
           try with_reducible rfl
         try simp only [Act.put, List.setIfInBounds_toArray, List.set_cons_zero, List.set_cons_succ])
      | (refine held_skip (i := 42) rfl (by kernel_rfl) (by kernel_rfl) (by kernel_rfl) (fun _ _ _ h => h) (by rfl) (by assumption) ?_
         try simp only [Act.put, List.setIfInBounds_toArray, List.set_cons_zero, List.set_cons_succ])
    first
      | (refine held_take (i := 43) (v := ?_) rfl (by kernel_rfl) (by kernel_rfl) (by kernel_rfl) (fun _ _ _ h => h) (by rfl) (by assumption) (fun w hSw => ?_) ?_
         rotate_left
         · (try dsimp only at hSw)
           go_simp
           try with_reducible rfl
         try simp only [Act.put, List.setIfInBounds_toArray, List.set_cons_zero, List.set_cons_succ])
      | (refine held_skip (i := 43) rfl (by kernel_rfl) (by kernel_rfl) (by kernel_rfl) (fun _ _ _ h => h) (by rfl) (by assumption) ?_
         try simp only [Act.put, List.setIfInBounds_toArray, List.set_cons_zero, List.set_cons_succ])
    first
      | (refine held_take (i := 44) (v := ?_) rfl (by kernel_rfl) (by kernel_rfl) (by kernel_rfl) (fun _ _ _ h => h) (by rfl) (by assumption) (fun w hSw => ?_) ?_
         rotate_left
         · (try dsimp only at hSw)
           go_simp
           try with_reducible rfl
         try simp only [Act.put, List.setIfInBounds_toArray, List.set_cons_zero, List.set_cons_succ])
      | (refine held_skip (i := 44) rfl (by kernel_rfl) (by kernel_rfl) (by kernel_rfl) (fun _ _ _ h => h) (by rfl) (by assumption) ?_
         try simp only [Act.put, List.setIfInBounds_toArray, List.set_cons_zero, List.set_cons_succ])
    refine wpAnyH_ready (rs := [45]) (by kernel_rfl) (by simp) ?_
    refine held_cons (i := 45) rfl (by rfl) (fun K hK => ?_) AllReadyH.nil
    go_simp
    refine hSP _ hHeld.2.2.2.2.2.2.2.2.2.2.2.2.2.2.1 hHeld.2.2.2.2.2.2.2.2.2.2.2.2.1 _ ?_
    intro wd hbd
    refine hK.out _ _ (tells_below bx bY bp hHeld hbd) (fun hHeld => ?_)
    clear hK K
    try simp only [Act.put, List.setIfInBounds_toArray, List.set_cons_zero, List.set_cons_succ]
    clear hbd
    first
      | (refine held_take (i := 46) (v := ?_) rfl (by kernel_rfl) (by kernel_rfl) (by kernel_rfl) (fun _ _ _ h => h) (by rfl) (by assumption) (fun w hSw => ?_) ?_
         rotate_left
         · (try dsimp only at hSw)
           go_simp
           try with_reducible rfl
         try simp only [Act.put, List.setIfInBounds_toArray, List.set_cons_zero, List.set_cons_succ])
      | (refine held_skip (i := 46) rfl (by kernel_rfl) (by kernel_rfl) (by kernel_rfl) (fun _ _ _ h => h) (by rfl) (by assumption) ?_
         try simp only [Act.put, List.setIfInBounds_toArray, List.set_cons_zero, List.set_cons_succ])
    first
      | (refine held_take (i := 47) (v := ?_) rfl (by kernel_rfl) (by kernel_rfl) (by kernel_rfl) (fun _ _ _ h => h) (by rfl) (by assumption) (fun w hSw => ?_) ?_
         rotate_left
         · (try dsimp only at hSw)
           go_simp
           try with_reducible rfl
         try simp only [Act.put, List.setIfInBounds_toArray, List.set_cons_zero, List.set_cons_succ])
      | (refine held_skip (i := 47) rfl (by kernel_rfl) (by kernel_rfl) (by kernel_rfl) (fun _ _ _ h => h) (by rfl) (by assumption) ?_
         try simp only [Act.put, List.setIfInBounds_toArray, List.set_cons_zero, List.set_cons_succ])
    have hbf := hHeld.2.2.2.2.2.2.2.2.2.2.2.2.2.2.2
    refine wpAnyH_done (by kernel_rfl) ?_ _
    go_wp2_with fail
    first | exact ⟨rfl, hbf⟩ | (go_ret; exact ⟨rfl, hbf⟩)
  simp only [Bool.true_and] at hC1
  replace hC2 := hC2 rfl rfl
  refine wpAnyH_ready (rs := [31]) (by kernel_rfl) (by simp) ?_
  refine held_cons (i := 31) rfl (by rfl) (fun K hK => ?_) AllReadyH.nil
  go_simp
  refine hC1 _ hHeld.2.2.2.2.2.2.2.2.2.2.2.2.1 hHeld.2.2.2.2.2.2.2.2.2.2.2.2.2.1 _ ?_
  intro wd hbd
  refine hK.out _ _ (tells_below bx bY bp hHeld hbd) (fun hHeld => ?_)
  clear hK K
  try simp only [Act.put, List.setIfInBounds_toArray, List.set_cons_zero, List.set_cons_succ]
  clear hbd
  first
    | (refine held_take (i := 33) (v := ?_) rfl (by kernel_rfl) (by kernel_rfl) (by kernel_rfl) (fun _ _ _ h => h) (by rfl) (by assumption) (fun w hSw => ?_) ?_
       rotate_left
       · (try dsimp only at hSw)
         go_simp
         try with_reducible rfl
       try simp only [Act.put, List.setIfInBounds_toArray, List.set_cons_zero, List.set_cons_succ])
    | (refine held_skip (i := 33) rfl (by kernel_rfl) (by kernel_rfl) (by kernel_rfl) (fun _ _ _ h => h) (by rfl) (by assumption) ?_
       try simp only [Act.put, List.setIfInBounds_toArray, List.set_cons_zero, List.set_cons_succ])
  first
    | (refine held_take (i := 34) (v := ?_) rfl (by kernel_rfl) (by kernel_rfl) (by kernel_rfl) (fun _ _ _ h => h) (by rfl) (by assumption) (fun w hSw => ?_) ?_
       rotate_left
       · (try dsimp only at hSw)
         go_simp
         try with_reducible rfl
       try simp only [Act.put, List.setIfInBounds_toArray, List.set_cons_zero, List.set_cons_succ])
    | (refine held_skip (i := 34) rfl (by kernel_rfl) (by kernel_rfl) (by kernel_rfl) (fun _ _ _ h => h) (by rfl) (by assumption) ?_
       try simp only [Act.put, List.setIfInBounds_toArray, List.set_cons_zero, List.set_cons_succ])
  first
    | (refine held_take (i := 35) (v := ?_) rfl (by kernel_rfl) (by kernel_rfl) (by kernel_rfl) (fun _ _ _ h => h) (by rfl) (by assumption) (fun w hSw => ?_) ?_
       rotate_left
       · (try dsimp only at hSw)
         go_simp
         try with_reducible rfl
       try simp only [Act.put, List.setIfInBounds_toArray, List.set_cons_zero, List.set_cons_succ])
    | (refine held_skip (i := 35) rfl (by kernel_rfl) (by kernel_rfl) (by kernel_rfl) (fun _ _ _ h => h) (by rfl) (by assumption) ?_
       try simp only [Act.put, List.setIfInBounds_toArray, List.set_cons_zero, List.set_cons_succ])
  refine wpAnyH_ready (rs := [36]) (by kernel_rfl) (by simp) ?_
  refine held_cons (i := 36) rfl (by rfl) (fun K hK => ?_) AllReadyH.nil
  go_simp
  refine hC2 _ hHeld.2.2.2.2.2.2.2.2.2.2.2.2.1 hHeld.2.2.2.2.2.2.2.2.2.2.2.2.2.1 _ ?_
  intro wd hbd
  refine hK.out _ _ (tells_below bx bY bp hHeld hbd) (fun hHeld => ?_)
  clear hK K
  try simp only [Act.put, List.setIfInBounds_toArray, List.set_cons_zero, List.set_cons_succ]
  clear hbd
  first
    | (refine held_take (i := 37) (v := ?_) rfl (by kernel_rfl) (by kernel_rfl) (by kernel_rfl) (fun _ _ _ h => h) (by rfl) (by assumption) (fun w hSw => ?_) ?_
       rotate_left
       · (try dsimp only at hSw)
         go_simp
         try with_reducible rfl
       try simp only [Act.put, List.setIfInBounds_toArray, List.set_cons_zero, List.set_cons_succ])
    | (refine held_skip (i := 37) rfl (by kernel_rfl) (by kernel_rfl) (by kernel_rfl) (fun _ _ _ h => h) (by rfl) (by assumption) ?_
       try simp only [Act.put, List.setIfInBounds_toArray, List.set_cons_zero, List.set_cons_succ])
  first
    | (refine held_take (i := 38) (v := ?_) rfl (by kernel_rfl) (by kernel_rfl) (by kernel_rfl) (fun _ _ _ h => h) (by rfl) (by assumption) (fun w hSw => ?_) ?_
       rotate_left
       · (try dsimp only at hSw)
         go_simp
         try with_reducible rfl
       try simp only [Act.put, List.setIfInBounds_toArray, List.set_cons_zero, List.set_cons_succ])
    | (refine held_skip (i := 38) rfl (by kernel_rfl) (by kernel_rfl) (by kernel_rfl) (fun _ _ _ h => h) (by rfl) (by assumption) ?_
       try simp only [Act.put, List.setIfInBounds_toArray, List.set_cons_zero, List.set_cons_succ])
  first
    | (refine held_take (i := 39) (v := ?_) rfl (by kernel_rfl) (by kernel_rfl) (by kernel_rfl) (fun _ _ _ h => h) (by rfl) (by assumption) (fun w hSw => ?_) ?_
       rotate_left
       · (try dsimp only at hSw)
         go_simp
         try with_reducible rfl
       try simp only [Act.put, List.setIfInBounds_toArray, List.set_cons_zero, List.set_cons_succ])
    | (refine held_skip (i := 39) rfl (by kernel_rfl) (by kernel_rfl) (by kernel_rfl) (fun _ _ _ h => h) (by rfl) (by assumption) ?_
       try simp only [Act.put, List.setIfInBounds_toArray, List.set_cons_zero, List.set_cons_succ])
  first
    | (refine held_take (i := 40) (v := ?_) rfl (by kernel_rfl) (by kernel_rfl) (by kernel_rfl) (fun _ _ _ h => h) (by rfl) (by assumption) (fun w hSw => ?_) ?_
       rotate_left
       · (try dsimp only at hSw)
         go_simp
         try with_reducible rfl
       try simp only [Act.put, List.setIfInBounds_toArray, List.set_cons_zero, List.set_cons_succ])
    | (refine held_skip (i := 40) rfl (by kernel_rfl) (by kernel_rfl) (by kernel_rfl) (fun _ _ _ h => h) (by rfl) (by assumption) ?_
       try simp only [Act.put, List.setIfInBounds_toArray, List.set_cons_zero, List.set_cons_succ])
  first
    | (refine held_take (i := 41) (v := ?_) rfl (by kernel_rfl) (by kernel_rfl) (by kernel_rfl) (fun _ _ _ h => h) (by rfl) (by assumption) (fun w hSw => ?_) ?_
       rotate_left
       · (try dsimp only at hSw)
         go_simp
         try with_reducible rfl
       try simp only [Act.put, List.setIfInBounds_toArray, List.set_cons_zero, List.set_cons_succ])
    | (refine held_skip (i := 41) rfl (by kernel_rfl) (by kernel_rfl) (by kernel_rfl) (fun _ _ _ h => h) (by rfl) (by assumption) ?_
       try simp only [Act.put, List.setIfInBounds_toArray, List.set_cons_zero, List.set_cons_succ])
  first
    | (refine held_take (i := 42) (v := ?_) rfl (by kernel_rfl) (by kernel_rfl) (by kernel_rfl) (fun _ _ _ h => h) (by rfl) (by assumption) (fun w hSw => ?_) ?_
       rotate_left
       · (try dsimp only at hSw)
         go_simp
         try with_reducible rfl
       try simp only [Act.put, List.setIfInBounds_toArray, List.set_cons_zero, List.set_cons_succ])
    | (refine held_skip (i := 42) rfl (by kernel_rfl) (by kernel_rfl) (by kernel_rfl) (fun _ _ _ h => h) (by rfl) (by assumption) ?_
       try simp only [Act.put, List.setIfInBounds_toArray, List.set_cons_zero, List.set_cons_succ])
  first
    | (refine held_take (i := 43) (v := ?_) rfl (by kernel_rfl) (by kernel_rfl) (by kernel_rfl) (fun _ _ _ h => h) (by rfl) (by assumption) (fun w hSw => ?_) ?_
       rotate_left
       · (try dsimp only at hSw)
         go_simp
         try with_reducible rfl
       try simp only [Act.put, List.setIfInBounds_toArray, List.set_cons_zero, List.set_cons_succ])
    | (refine held_skip (i := 43) rfl (by kernel_rfl) (by kernel_rfl) (by kernel_rfl) (fun _ _ _ h => h) (by rfl) (by assumption) ?_
       try simp only [Act.put, List.setIfInBounds_toArray, List.set_cons_zero, List.set_cons_succ])
  first
    | (refine held_take (i := 44) (v := ?_) rfl (by kernel_rfl) (by kernel_rfl) (by kernel_rfl) (fun _ _ _ h => h) (by rfl) (by assumption) (fun w hSw => ?_) ?_
       rotate_left
       · (try dsimp only at hSw)
         go_simp
         try with_reducible rfl
       try simp only [Act.put, List.setIfInBounds_toArray, List.set_cons_zero, List.set_cons_succ])
    | (refine held_skip (i := 44) rfl (by kernel_rfl) (by kernel_rfl) (by kernel_rfl) (fun _ _ _ h => h) (by rfl) (by assumption) ?_
       try simp only [Act.put, List.setIfInBounds_toArray, List.set_cons_zero, List.set_cons_succ])
  refine wpAnyH_ready (rs := [45]) (by kernel_rfl) (by simp) ?_
  refine held_cons (i := 45) rfl (by rfl) (fun K hK => ?_) AllReadyH.nil
  go_simp
  refine hSP _ hHeld.2.2.2.2.2.2.2.2.2.2.2.2.2.2.1 hHeld.2.2.2.2.2.2.2.2.2.2.2.2.1 _ ?_
  intro wd hbd
  refine hK.out _ _ (tells_below bx bY bp hHeld hbd) (fun hHeld => ?_)
  clear hK K
  try simp only [Act.put, List.setIfInBounds_toArray, List.set_cons_zero, List.set_cons_succ]
  clear hbd
  first
    | (refine held_take (i := 46) (v := ?_) rfl (by kernel_rfl) (by kernel_rfl) (by kernel_rfl) (fun _ _ _ h => h) (by rfl) (by assumption) (fun w hSw => ?_) ?_
       rotate_left
       · (try dsimp only at hSw)
         go_simp
         try with_reducible rfl
       try simp only [Act.put, List.setIfInBounds_toArray, List.set_cons_zero, List.set_cons_succ])
    | (refine held_skip (i := 46) rfl (by kernel_rfl) (by kernel_rfl) (by kernel_rfl) (fun _ _ _ h => h) (by rfl) (by assumption) ?_
       try simp only [Act.put, List.setIfInBounds_toArray, List.set_cons_zero, List.set_cons_succ])
  first
    | (refine held_take (i := 47) (v := ?_) rfl (by kernel_rfl) (by kernel_rfl) (by kernel_rfl) (fun _ _ _ h => h) (by rfl) (by assumption) (fun w hSw => ?_) ?_
       rotate_left
       · (try dsimp only at hSw)
         go_simp
         try with_reducible rfl
       try simp only [Act.put, List.setIfInBounds_toArray, List.set_cons_zero, List.set_cons_succ])
    | (refine held_skip (i := 47) rfl (by kernel_rfl) (by kernel_rfl) (by kernel_rfl) (fun _ _ _ h => h) (by rfl) (by assumption) ?_
       try simp only [Act.put, List.setIfInBounds_toArray, List.set_cons_zero, List.set_cons_succ])
  have hbf := hHeld.2.2.2.2.2.2.2.2.2.2.2.2.2.2.2
  refine wpAnyH_done (by kernel_rfl) ?_ _
  go_wp2_with fail
  first | exact ⟨rfl, hbf⟩ | (go_ret; exact ⟨rfl, hbf⟩)
end
end Go.Proofs.Ytgjiedjfplbipaa
