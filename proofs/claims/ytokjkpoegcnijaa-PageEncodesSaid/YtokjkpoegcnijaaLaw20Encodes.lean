/- PageEncodes' walk. -/
import Derived.Deep.RegionWith
import Derived.Deep.DrawnRows
import Derived.Deep.DeepCutAuto
import Derived.Test.YtokjkpoegcnijaaPageMark
import Derived.Test.YtokjkpoegcnijaaPageSame
import Derived.Test.YtokjkpoegcnijaaPageBack
import Derived.Test.YtokjkpoegcnijaaLaw20
import Derived.Test.YtokjkpoegcnijaaHeld
namespace Go.Proofs.Ytokjkpoegcnijaa
open Go.RowKit Go.Lib
section
def PgIn (w : World) (x : Nat) (g : PgV) (A1 A2 : Option Addr) (c1 c2 : Nat) : Prop :=
  Blk w x 27 #[.string g.pre, .bool g.leaf, .slice A1 g.sl.length c1, .slice A2 g.it.length c2] ∧ Row w A1 (flat slC g.sl) ∧ Row w A2 (flat itC g.it)
theorem PgIn.below {w w' : World} {x : Nat} {g : PgV} {A1 A2 : Option Addr} {c1 c2 : Nat} (h : PgIn w x g A1 A2 c1 c2) (hb : Below w.heap.size w w') : PgIn w' x g A1 A2 c1 c2 :=
  ⟨h.1.below hb h.1.lt, h.2.1.below hb (Nat.le_refl _), h.2.2.below hb (Nat.le_refl _)⟩
theorem PgIn.cells {w : World} {x : Nat} {g : PgV} {A1 A2 : Option Addr} {c1 c2 : Nat} (h : PgIn w x g A1 A2 c1 c2) :
    w.cell? ⟨x, 0, none⟩ = some (.string g.pre) ∧ w.cell? ⟨x, 1, none⟩ = some (.bool g.leaf) ∧ w.cell? ⟨x, 2, none⟩ = some (.slice A1 g.sl.length c1) ∧ w.cell? ⟨x, 3, none⟩ = some (.slice A2 g.it.length c2) :=
  ⟨h.1.cell 0, h.1.cell 1, h.1.cell 2, h.1.cell 3⟩
set_option maxHeartbeats 8000000 in
set_option maxRecDepth 100000 in
theorem law20_encodes (g q : PgV) (A1 A2 B1 B2 : Option Addr) (c1 c2 d1 d2 : Nat) (max : Int) (w : World) (r1 : Row w A1 (flat slC g.sl)) (r2 : Row w A2 (flat itC g.it)) (hsb : ∀ j, j < g.sl.length → 0 ≤ (g.sl.getD j (0, emp)).1 ∧ (g.sl.getD j (0, emp)).1 < 256)
    (k1 : Row w B1 (flat slC q.sl)) (k2 : Row w B2 (flat itC q.it)) (hm : max ≤ 9223372036854775807) :
    Calls Try.prog 11 #[.agg #[.string g.pre, .bool g.leaf, .slice A1 g.sl.length c1, .slice A2 g.it.length c2], .agg #[.string q.pre, .bool q.leaf, .slice B1 q.sl.length d1, .slice B2 q.it.length d2], .int .i64 max] w fun e w' => e = .returned (.bool true) ∧ Below w.heap.size w w' := by
  go_enter Try.func11, Try.ntmps11
  go_upto_region 1 with fail
  have hX := (Blk.new w 27 #[.string g.pre, .bool g.leaf, .slice A1 g.sl.length c1, .slice A2 g.it.length c2]).alloc (.cells #[.string q.pre, .bool q.leaf, .slice B1 q.sl.length d1, .slice B2 q.it.length d2] 27)
  have hY := Blk.new (w.alloc (.cells #[.string g.pre, .bool g.leaf, .slice A1 g.sl.length c1, .slice A2 g.it.length c2] 27)) 27 #[.string q.pre, .bool q.leaf, .slice B1 q.sl.length d1, .slice B2 q.it.length d2]
  have hb := ((Below.refl w.heap.size w).alloc (Nat.le_refl _) (.cells #[.string g.pre, .bool g.leaf, .slice A1 g.sl.length c1, .slice A2 g.it.length c2] 27))
  replace hb := hb.alloc hb.size (.cells #[.string q.pre, .bool q.leaf, .slice B1 q.sl.length d1, .slice B2 q.it.length d2] 27)
  have hG : PgIn _ _ g A1 A2 c1 c2 := ⟨hX, r1.below hb (Nat.le_refl _), r2.below hb (Nat.le_refl _)⟩
  have hQ : PgIn _ _ q B1 B2 d1 d2 := ⟨hY, k1.below hb (Nat.le_refl _), k2.below hb (Nat.le_refl _)⟩
  have hyx : (w.alloc (.cells #[.string g.pre, .bool g.leaf, .slice A1 g.sl.length c1, .slice A2 g.it.length c2] 27)).heap.size = w.heap.size + 1 := by simp
  rw [hyx] at hQ
  clear hyx hX hY r1 r2 k1 k2
  generalize ((w.alloc (.cells #[.string g.pre, .bool g.leaf, .slice A1 g.sl.length c1, .slice A2 g.it.length c2] 27)).alloc (.cells #[.string q.pre, .bool q.leaf, .slice B1 q.sl.length d1, .slice B2 q.it.length d2] 27)) = w1 at *
  obtain ⟨x, hx⟩ : ∃ x, w.heap.size = x := ⟨_, rfl⟩
  obtain ⟨y, hy⟩ : ∃ y, w.heap.size + 1 = y := ⟨_, rfl⟩
  rw [hy] at hQ ⊢
  rw [hx] at hG
  have HXW := Lib.hid hx
  clear hy hx
  go_wp2_with fail
  refine law20_awake w1 ?_
  intro w2 hb2
  replace hG := hG.below hb2
  replace hQ := hQ.below hb2
  replace hb := hb.trans (hb2.mono hb.size)
  clear hb2
  obtain ⟨q0, q1, q2, q3⟩ := hG.cells
  rw [HXW.out]
  go_wp2_with fail
  refine ref20_Great g A1 A2 c1 c2 w2 hG.2.1 hG.2.2 ?_
  intro b1 w3 hb1d hb3
  replace hG := hG.below hb3
  replace hQ := hQ.below hb3
  replace hb := hb.trans (hb3.mono hb.size)
  clear hb3 q0 q1 q2 q3
  cases b1
  rotate_left
  · go_wp2_with fail
    first | exact ⟨rfl, hb⟩ | (go_ret; exact ⟨rfl, hb⟩)
  obtain ⟨_, hn1, hn2⟩ := hb1d rfl
  obtain ⟨q0, q1, q2, q3⟩ := hQ.cells
  go_wp2_with fail
  refine ref20_Great q B1 B2 d1 d2 w3 hQ.2.1 hQ.2.2 ?_
  intro b2 w4 hb2d hb4
  replace hG := hG.below hb4
  replace hQ := hQ.below hb4
  replace hb := hb.trans (hb4.mono hb.size)
  clear hb4 q0 q1 q2 q3
  cases b2
  rotate_left
  · go_wp2_with fail
    first | exact ⟨rfl, hb⟩ | (go_ret; exact ⟨rfl, hb⟩)
  obtain ⟨_, hm1, hm2⟩ := hb2d rfl
  clear hb1d hb2d
  have hl1 : g.sl.length ≤ 140737488351232 := by omega
  have hl2 : g.it.length ≤ 140737488351232 := by omega
  obtain ⟨q0, q1, q2, q3⟩ := hG.cells
  go_wp2_with fail
  refine page_Encode g A1 A2 c1 c2 w4 hG.2.1 hG.2.2 hl1 hl2 hsb ?_
  have hre := fun w h1 h2 R => ref20_Encode g A1 A2 c1 c2 w h1 h2 hsb (R := R)
  have hok : (pageEnc g).2 = 0 → PgOk g ∧ (pageEnc g).1 = pageBytes g := by
    unfold pageEnc
    split
    · next c => intro e; exact absurd e c
    · next c => intro _; exact ⟨checkR_ok (by omega), rfl⟩
  have hsz := pageEnc_size g
  generalize pageEnc g = pe at *
  obtain ⟨S, f⟩ := pe
  dsimp only at hre hok hsz ⊢
  intro w5 hb5
  replace hG := hG.below hb5
  replace hQ := hQ.below hb5
  replace hb := hb.trans (hb5.mono hb.size)
  clear hb5
  clear q0 q1 q2 q3
  obtain ⟨q0, q1, q2, q3⟩ := (hG).cells
  go_wp2_with fail
  refine hre w5 hG.2.1 hG.2.2 _ ?_
  intro w6 hb6
  replace hG := hG.below hb6
  replace hQ := hQ.below hb6
  replace hb := hb.trans (hb6.mono hb.size)
  clear hb6 hre
  clear q0 q1 q2 q3
  obtain ⟨q0, q1, q2, q3⟩ := (hG).cells
  go_wp2_with fail
  refine page_Mark g A1 A2 c1 c2 w6 hG.2.1 hG.2.2 hl1 hl2 hsb ?_
  have hrm := fun w h1 h2 R => ref20_Mark g A1 A2 c1 c2 w h1 h2 hsb (R := R)
  generalize pmkR g = mr at *
  obtain ⟨M, mf⟩ := mr
  dsimp only at hrm ⊢
  intro w7 hb7
  replace hG := hG.below hb7
  replace hQ := hQ.below hb7
  replace hb := hb.trans (hb7.mono hb.size)
  clear hb7
  clear q0 q1 q2 q3
  obtain ⟨q0, q1, q2, q3⟩ := (hG).cells
  go_wp2_with fail
  refine hrm w7 hG.2.1 hG.2.2 _ ?_
  intro w8 hb8
  replace hG := hG.below hb8
  replace hQ := hQ.below hb8
  replace hb := hb.trans (hb8.mono hb.size)
  clear hb8 hrm
  clear q0 q1 q2 q3
  go_upto_region 9 with fail
  go_cut [83] (fun s83 wx => s83 = .bool false ∧ Below w8.heap.size w8 wx)
  case first =>
    have hsk : ∀ w', PgIn w' x g A1 A2 c1 c2 → PgIn w' y q B1 B2 d1 d2 → (w'.cell? ⟨x, 0, none⟩ = some (.string g.pre) ∧ w'.cell? ⟨x, 1, none⟩ = some (.bool g.leaf) ∧ w'.cell? ⟨x, 2, none⟩ = some (.slice A1 g.sl.length c1) ∧ w'.cell? ⟨x, 3, none⟩ = some (.slice A2 g.it.length c2)) ∧ (w'.cell? ⟨y, 0, none⟩ = some (.string q.pre) ∧ w'.cell? ⟨y, 1, none⟩ = some (.bool q.leaf) ∧ w'.cell? ⟨y, 2, none⟩ = some (.slice B1 q.sl.length d1) ∧ w'.cell? ⟨y, 3, none⟩ = some (.slice B2 q.it.length d2)) := fun w' h k => ⟨h.cells, k.cells⟩
    have HSK := Lib.hid hsk
    have hSS := hsk w8.drew hG hQ
    clear hsk
    refine wp_region_held_drew (S := fun w' => (w'.cell? ⟨x, 0, none⟩ = some (.string g.pre) ∧ w'.cell? ⟨x, 1, none⟩ = some (.bool g.leaf) ∧ w'.cell? ⟨x, 2, none⟩ = some (.slice A1 g.sl.length c1) ∧ w'.cell? ⟨x, 3, none⟩ = some (.slice A2 g.it.length c2)) ∧ (w'.cell? ⟨y, 0, none⟩ = some (.string q.pre) ∧ w'.cell? ⟨y, 1, none⟩ = some (.bool q.leaf) ∧ w'.cell? ⟨y, 2, none⟩ = some (.slice B1 q.sl.length d1) ∧ w'.cell? ⟨y, 3, none⟩ = some (.slice B2 q.it.length d2))) (by kernel_rfl) hSS (fun hHeld => ?_)
    clear hSS
    replace hG : PgIn w8.drew x g A1 A2 c1 c2 := hG
    replace hQ : PgIn w8.drew y q B1 B2 d1 d2 := hQ
    have hbA : Below w8.heap.size w8 w8.drew := below_drewN (Below.refl _ _) 1
    generalize w8.drew = w9 at *
    refine held_take (i := 0) (v := ?_) rfl (by kernel_rfl) (by kernel_rfl) (by kernel_rfl) (fun _ _ _ h => h) (by rfl) (by assumption) (fun w hSw => ?_) ?_
    rotate_left
    · (try dsimp only at hSw)
      go_simp
      try with_reducible rfl
    try simp only [Act.put, List.setIfInBounds_toArray, List.set_cons_zero, List.set_cons_succ]
    refine held_take (i := 2) (v := ?_) rfl (by kernel_rfl) (by kernel_rfl) (by kernel_rfl) (fun _ _ _ h => h) (by rfl) (by assumption) (fun w hSw => ?_) ?_
    rotate_left
    · (try dsimp only at hSw)
      go_simp
      try with_reducible rfl
    try simp only [Act.put, List.setIfInBounds_toArray, List.set_cons_zero, List.set_cons_succ]
    refine wpAnyH_ready (rs := [1]) (by kernel_rfl) (by simp) ?_
    refine held_cons (i := 1) rfl (by rfl) (fun K hK => ?_) AllReadyH.nil
    go_simp
    refine page_Check g A1 A2 c1 c2 w9 hG.2.1 hG.2.2 hl1 hl2 ?_
    intro w10 hb10
    replace hG := hG.below hb10
    replace hQ := hQ.below hb10
    replace hbA := hbA.trans (hb10.mono hbA.size)
    clear hb10
    dsimp only
    refine hK.out _ _ (HSK.out _ hG hQ) (fun hHeld => ?_)
    clear hK K
    try simp only [Act.put, List.setIfInBounds_toArray, List.set_cons_zero, List.set_cons_succ]
    refine wpAnyH_ready (rs := [3]) (by kernel_rfl) (by simp) ?_
    refine held_cons (i := 3) rfl (by rfl) (fun K hK => ?_) AllReadyH.nil
    go_simp
    refine ref20_Check g A1 A2 c1 c2 w10 hG.2.1 hG.2.2 ?_
    intro w11 hb11
    replace hG := hG.below hb11
    replace hQ := hQ.below hb11
    replace hbA := hbA.trans (hb11.mono hbA.size)
    clear hb11
    dsimp only
    refine hK.out _ _ (HSK.out _ hG hQ) (fun hHeld => ?_)
    clear hK K
    try simp only [Act.put, List.setIfInBounds_toArray, List.set_cons_zero, List.set_cons_succ]
    generalize checkR g = ck at *
    refine held_take (i := 4) (v := ?_) rfl (by kernel_rfl) (by kernel_rfl) (by kernel_rfl) (fun _ _ _ h => h) (by rfl) (by assumption) (fun w hSw => ?_) ?_
    rotate_left
    · (try dsimp only at hSw)
      go_simp
      try with_reducible rfl
    try simp only [Act.put, List.setIfInBounds_toArray, List.set_cons_zero, List.set_cons_succ]
    refine held_take (i := 5) (v := ?_) rfl (by kernel_rfl) (by kernel_rfl) (by kernel_rfl) (fun _ _ _ h => h) (by rfl) (by assumption) (fun w hSw => ?_) ?_
    rotate_left
    · (try dsimp only at hSw)
      go_simp
      try with_reducible rfl
    try simp only [Act.put, List.setIfInBounds_toArray, List.set_cons_zero, List.set_cons_succ]
    refine held_take (i := 6) (v := ?_) rfl (by kernel_rfl) (by kernel_rfl) (by kernel_rfl) (fun _ _ _ h => h) (by rfl) (by assumption) (fun w hSw => ?_) ?_
    rotate_left
    · (try dsimp only at hSw)
      go_simp
      try with_reducible rfl
    try simp only [Act.put, List.setIfInBounds_toArray, List.set_cons_zero, List.set_cons_succ]
    refine held_take (i := 7) (v := ?_) rfl (by kernel_rfl) (by kernel_rfl) (by kernel_rfl) (fun _ _ _ h => h) (by rfl) (by assumption) (fun w hSw => ?_) ?_
    rotate_left
    · (try dsimp only at hSw)
      go_simp
      try with_reducible rfl
    try simp only [Act.put, List.setIfInBounds_toArray, List.set_cons_zero, List.set_cons_succ]
    refine held_take (i := 8) (v := ?_) rfl (by kernel_rfl) (by kernel_rfl) (by kernel_rfl) (fun _ _ _ h => h) (by rfl) (by assumption) (fun w hSw => ?_) ?_
    rotate_left
    · (try dsimp only at hSw)
      go_simp
      try with_reducible rfl
    try simp only [Act.put, List.setIfInBounds_toArray, List.set_cons_zero, List.set_cons_succ]
    refine held_take (i := 9) (v := ?_) rfl (by kernel_rfl) (by kernel_rfl) (by kernel_rfl) (fun _ _ _ h => h) (by rfl) (by assumption) (fun w hSw => ?_) ?_
    rotate_left
    · (try dsimp only at hSw)
      go_simp
      try with_reducible rfl
    try simp only [Act.put, List.setIfInBounds_toArray, List.set_cons_zero, List.set_cons_succ]
    refine held_take (i := 10) (v := ?_) rfl (by kernel_rfl) (by kernel_rfl) (by kernel_rfl) (fun _ _ _ h => h) (by rfl) (by assumption) (fun w hSw => ?_) ?_
    rotate_left
    · (try dsimp only at hSw)
      go_simp
      try with_reducible rfl
    try simp only [Act.put, List.setIfInBounds_toArray, List.set_cons_zero, List.set_cons_succ]
    refine held_take (i := 11) (v := ?_) rfl (by kernel_rfl) (by kernel_rfl) (by kernel_rfl) (fun _ _ _ h => h) (by rfl) (by assumption) (fun w hSw => ?_) ?_
    rotate_left
    · (try dsimp only at hSw)
      go_simp
      try with_reducible rfl
    try simp only [Act.put, List.setIfInBounds_toArray, List.set_cons_zero, List.set_cons_succ]
    refine held_take (i := 12) (v := ?_) rfl (by kernel_rfl) (by kernel_rfl) (by kernel_rfl) (fun _ _ _ h => h) (by rfl) (by assumption) (fun w hSw => ?_) ?_
    rotate_left
    · (try dsimp only at hSw)
      go_simp
      try with_reducible rfl
    try simp only [Act.put, List.setIfInBounds_toArray, List.set_cons_zero, List.set_cons_succ]
    refine held_take (i := 13) (v := ?_) rfl (by kernel_rfl) (by kernel_rfl) (by kernel_rfl) (fun _ _ _ h => h) (by rfl) (by assumption) (fun w hSw => ?_) ?_
    rotate_left
    · (try dsimp only at hSw)
      go_simp
      try with_reducible rfl
    try simp only [Act.put, List.setIfInBounds_toArray, List.set_cons_zero, List.set_cons_succ]
    refine held_take (i := 14) (v := ?_) rfl (by kernel_rfl) (by kernel_rfl) (by kernel_rfl) (fun _ _ _ h => h) (by rfl) (by assumption) (fun w hSw => ?_) ?_
    rotate_left
    · (try dsimp only at hSw)
      go_simp
      try with_reducible rfl
    try simp only [Act.put, List.setIfInBounds_toArray, List.set_cons_zero, List.set_cons_succ]
    refine held_take (i := 15) (v := ?_) rfl (by kernel_rfl) (by kernel_rfl) (by kernel_rfl) (fun _ _ _ h => h) (by rfl) (by assumption) (fun w hSw => ?_) ?_
    rotate_left
    · (try dsimp only at hSw)
      go_simp
      try with_reducible rfl
    try simp only [Act.put, List.setIfInBounds_toArray, List.set_cons_zero, List.set_cons_succ]
    refine held_take (i := 16) (v := ?_) rfl (by kernel_rfl) (by kernel_rfl) (by kernel_rfl) (fun _ _ _ h => h) (by rfl) (by assumption) (fun w hSw => ?_) ?_
    rotate_left
    · (try dsimp only at hSw)
      go_simp
      try with_reducible rfl
    try simp only [Act.put, List.setIfInBounds_toArray, List.set_cons_zero, List.set_cons_succ]
    refine held_take (i := 17) (v := ?_) rfl (by kernel_rfl) (by kernel_rfl) (by kernel_rfl) (fun _ _ _ h => h) (by rfl) (by assumption) (fun w hSw => ?_) ?_
    rotate_left
    · (try dsimp only at hSw)
      go_simp
      try with_reducible rfl
    try simp only [Act.put, List.setIfInBounds_toArray, List.set_cons_zero, List.set_cons_succ]
    refine held_take (i := 18) (v := ?_) rfl (by kernel_rfl) (by kernel_rfl) (by kernel_rfl) (fun _ _ _ h => h) (by rfl) (by assumption) (fun w hSw => ?_) ?_
    rotate_left
    · (try dsimp only at hSw)
      go_simp
      try with_reducible rfl
    try simp only [Act.put, List.setIfInBounds_toArray, List.set_cons_zero, List.set_cons_succ]
    refine held_take (i := 19) (v := ?_) rfl (by kernel_rfl) (by kernel_rfl) (by kernel_rfl) (fun _ _ _ h => h) (by rfl) (by assumption) (fun w hSw => ?_) ?_
    rotate_left
    · (try dsimp only at hSw)
      go_simp
      try with_reducible rfl
    try simp only [Act.put, List.setIfInBounds_toArray, List.set_cons_zero, List.set_cons_succ]
    refine held_take (i := 20) (v := ?_) rfl (by kernel_rfl) (by kernel_rfl) (by kernel_rfl) (fun _ _ _ h => h) (by rfl) (by assumption) (fun w hSw => ?_) ?_
    rotate_left
    · (try dsimp only at hSw)
      go_simp
      try with_reducible rfl
    try simp only [Act.put, List.setIfInBounds_toArray, List.set_cons_zero, List.set_cons_succ]
    refine held_take (i := 21) (v := ?_) rfl (by kernel_rfl) (by kernel_rfl) (by kernel_rfl) (fun _ _ _ h => h) (by rfl) (by assumption) (fun w hSw => ?_) ?_
    rotate_left
    · (try dsimp only at hSw)
      go_simp
      try with_reducible rfl
    try simp only [Act.put, List.setIfInBounds_toArray, List.set_cons_zero, List.set_cons_succ]
    refine held_take (i := 22) (v := ?_) rfl (by kernel_rfl) (by kernel_rfl) (by kernel_rfl) (fun _ _ _ h => h) (by rfl) (by assumption) (fun w hSw => ?_) ?_
    rotate_left
    · (try dsimp only at hSw)
      go_simp
      try with_reducible rfl
    try simp only [Act.put, List.setIfInBounds_toArray, List.set_cons_zero, List.set_cons_succ]
    refine held_take (i := 23) (v := ?_) rfl (by kernel_rfl) (by kernel_rfl) (by kernel_rfl) (fun _ _ _ h => h) (by rfl) (by assumption) (fun w hSw => ?_) ?_
    rotate_left
    · (try dsimp only at hSw)
      go_simp
      try with_reducible rfl
    try simp only [Act.put, List.setIfInBounds_toArray, List.set_cons_zero, List.set_cons_succ]
    refine held_take (i := 24) (v := ?_) rfl (by kernel_rfl) (by kernel_rfl) (by kernel_rfl) (fun _ _ _ h => h) (by rfl) (by assumption) (fun w hSw => ?_) ?_
    rotate_left
    · (try dsimp only at hSw)
      go_simp
      try with_reducible rfl
    try simp only [Act.put, List.setIfInBounds_toArray, List.set_cons_zero, List.set_cons_succ]
    refine held_take (i := 25) (v := ?_) rfl (by kernel_rfl) (by kernel_rfl) (by kernel_rfl) (fun _ _ _ h => h) (by rfl) (by assumption) (fun w hSw => ?_) ?_
    rotate_left
    · (try dsimp only at hSw)
      go_simp
      try with_reducible rfl
    try simp only [Act.put, List.setIfInBounds_toArray, List.set_cons_zero, List.set_cons_succ]
    refine held_take (i := 26) (v := ?_) rfl (by kernel_rfl) (by kernel_rfl) (by kernel_rfl) (fun _ _ _ h => h) (by rfl) (by assumption) (fun w hSw => ?_) ?_
    rotate_left
    · (try dsimp only at hSw)
      go_simp
      try with_reducible rfl
    try simp only [Act.put, List.setIfInBounds_toArray, List.set_cons_zero, List.set_cons_succ]
    refine held_take (i := 27) (v := ?_) rfl (by kernel_rfl) (by kernel_rfl) (by kernel_rfl) (fun _ _ _ h => h) (by rfl) (by assumption) (fun w hSw => ?_) ?_
    rotate_left
    · (try dsimp only at hSw)
      go_simp
      try with_reducible rfl
    try simp only [Act.put, List.setIfInBounds_toArray, List.set_cons_zero, List.set_cons_succ]
    refine held_take (i := 29) (v := ?_) rfl (by kernel_rfl) (by kernel_rfl) (by kernel_rfl) (fun _ _ _ h => h) (by rfl) (by assumption) (fun w hSw => ?_) ?_
    rotate_left
    · (try dsimp only at hSw)
      go_simp
      try with_reducible rfl
    try simp only [Act.put, List.setIfInBounds_toArray, List.set_cons_zero, List.set_cons_succ]
    refine held_take (i := 30) (v := ?_) rfl (by kernel_rfl) (by kernel_rfl) (by kernel_rfl) (fun _ _ _ h => h) (by rfl) (by assumption) (fun w hSw => ?_) ?_
    rotate_left
    · (try dsimp only at hSw)
      go_simp
      try with_reducible rfl
    try simp only [Act.put, List.setIfInBounds_toArray, List.set_cons_zero, List.set_cons_succ]
    refine wpAnyH_ready (rs := [28]) (by kernel_rfl) (by simp) ?_
    refine held_cons (i := 28) rfl (by rfl) (fun K hK => ?_) AllReadyH.nil
    go_simp
    refine page_Same g q A1 A2 B1 B2 c1 c2 d1 d2 w11 hG.2.1 hG.2.2 hQ.2.1 hQ.2.2 hl1 hl2 ?_
    intro w12 hb12
    replace hG := hG.below hb12
    replace hQ := hQ.below hb12
    replace hbA := hbA.trans (hb12.mono hbA.size)
    clear hb12
    dsimp only
    refine hK.out _ _ (HSK.out _ hG hQ) (fun hHeld => ?_)
    clear hK K
    try simp only [Act.put, List.setIfInBounds_toArray, List.set_cons_zero, List.set_cons_succ]
    refine wpAnyH_ready (rs := [31]) (by kernel_rfl) (by simp) ?_
    refine held_cons (i := 31) rfl (by rfl) (fun K hK => ?_) AllReadyH.nil
    go_simp
    refine ref20_Same g q A1 A2 B1 B2 c1 c2 d1 d2 w12 hG.2.1 hG.2.2 hQ.2.1 hQ.2.2 hl1 hl2 ?_
    intro w13 hb13
    replace hG := hG.below hb13
    replace hQ := hQ.below hb13
    replace hbA := hbA.trans (hb13.mono hbA.size)
    clear hb13
    dsimp only
    refine hK.out _ _ (HSK.out _ hG hQ) (fun hHeld => ?_)
    clear hK K
    try simp only [Act.put, List.setIfInBounds_toArray, List.set_cons_zero, List.set_cons_succ]
    generalize sameR g q = sm at *
    refine held_take (i := 32) (v := ?_) rfl (by kernel_rfl) (by kernel_rfl) (by kernel_rfl) (fun _ _ _ h => h) (by rfl) (by assumption) (fun w hSw => ?_) ?_
    rotate_left
    · (try dsimp only at hSw)
      go_simp
      try with_reducible rfl
    try simp only [Act.put, List.setIfInBounds_toArray, List.set_cons_zero, List.set_cons_succ]
    refine held_take (i := 33) (v := ?_) rfl (by kernel_rfl) (by kernel_rfl) (by kernel_rfl) (fun _ _ _ h => h) (by rfl) (by assumption) (fun w hSw => ?_) ?_
    rotate_left
    · (try dsimp only at hSw)
      go_simp
      try with_reducible rfl
    try simp only [Act.put, List.setIfInBounds_toArray, List.set_cons_zero, List.set_cons_succ]
    refine wpAnyH_done (by kernel_rfl) ?_ _
    go_wp2_with fail
    go_meet
    exact ⟨rfl, hbA⟩
  case rest =>
  obtain ⟨rfl, hbc⟩ := hcut
  replace hG := hG.below hbc
  replace hb := hb.trans (hbc.mono hb.size)
  clear hbc hQ
  obtain ⟨mx, hmx⟩ : ∃ mx, (if max < 0 then 0 else max) = mx := ⟨_, rfl⟩
  have hm0 : 0 ≤ mx ∧ mx ≤ 9223372036854775807 := by rw [← hmx]; split <;> omega
  have HMX := Lib.hid hmx
  clear hmx hm
  have hA1 : ∀ ad, A1 = some ad → flat slC g.sl ≠ [] → ad.block < wc.heap.size := fun ad e hn => Row.lt hG.2.1 hn ad e
  have hA2 : ∀ ad, A2 = some ad → flat itC g.it ≠ [] → ad.block < wc.heap.size := fun ad e hn => Row.lt hG.2.2 hn ad e
  go_wp2_with fail
  refine pen_New max wc.heap.size wc ?_
  rw [HMX.out]
  intro gp w9 hp9 hgp hb9
  go_wp2_with fail
  refine ref02_New max w9 ?_
  rw [HMX.out]
  intro gx w10 hx10 hgx hb10
  have hp10 := hp9.ext (Ext.of_below hb10) (Nat.not_le.2 hp9.lt) (fun k e => by cases e)
  have hgpx : gp ≠ gx := by have := hp9.lt; omega
  have hgx2 : wc.heap.size ≤ gx := by have := hb9.size; omega
  have hxl := Blk.lt hx10
  replace hb10 := hb9.trans (hb10.mono hb9.size)
  clear hb9 hp9
  obtain ⟨q0, q1, q2, q3⟩ := (hG.below hb10).cells
  go_wp2_with fail
  refine page_Put wc.heap.size gp none ⟨#[]⟩ mx 0 g A1 A2 c1 c2 w10 hp10 hb10.size hm0.1 hm0.2 (by decide) (hG.below hb10).2.1 (hG.below hb10).2.2 hl1 hl2 hsb (fun ad e hn h => by
    have := hA1 ad e hn
    rcases h with h | h
    · omega
    · cases h) (fun ad e hn h => by
    have := hA2 ad e hn
    rcases h with h | h
    · omega
    · cases h) ?_
  have hrp := fun w o h h1 h2 k1 k2 R => ref20_Put gx ⟨#[]⟩ mx 0 g A1 A2 c1 c2 w h hm0.1 hm0.2 o h1 h2 hsb k1 k2 (R := R)
  generalize pagePut ⟨#[]⟩ mx 0 g = pp at *
  obtain ⟨u, e1⟩ := pp
  dsimp only at hrp ⊢
  intro w11 o hp11 hos hx11
  have hr11 : RPen w11 gx ⟨#[]⟩ mx 0 := Blk.ext hx10 hx11 (fun h => by
    rcases h with h | h
    · exact hgpx h.symm
    · cases h)
  replace hb10 := below_ext hb10 (Nat.le_refl _) hx11 (fun b h => by
    rcases h with h | h
    · omega
    · cases h)
  have hog : ∀ k, o = some k → ¬ k = gx := fun k e => by
    rcases hos with h | ⟨k', h, hk⟩
    · rw [h] at e; cases e
    · rw [h] at e; injection e with e; omega
  clear hx10 hx11 hp10 hos q0 q1 q2 q3
  obtain ⟨q0, q1, q2, q3⟩ := (hG.below hb10).cells
  go_wp2_with fail
  refine hrp w11 (by decide) hr11 (hG.below hb10).2.1 (hG.below hb10).2.2 (fun ad e hn => by have := hA1 ad e hn; omega) (fun ad e hn => by have := hA2 ad e hn; omega) _ ?_
  intro w12 hr12 hx12
  have hp12 := hp11.ext hx12 hgpx hog
  replace hb10 := below_ext hb10 (Nat.le_refl _) hx12 (fun b h => by omega)
  clear hrp hr11 hp11 hx12 q0 q1 q2 q3 hA1 hA2
  replace hG := hG.below hb10
  replace hb := hb.trans (hb10.mono hb.size)
  clear hb10
  obtain ⟨T, e2, hpe⟩ : ∃ T e2, penEnd u e1 = (T, e2) := ⟨_, _, rfl⟩
  have HPE := Lib.hid hpe
  clear hpe
  go_wp2_with fail
  refine (pen_End _ gp _ _ _ _ _ hp12).mono ?_
  rw [HPE.out]
  rintro y2 w' ⟨rfl, rfl⟩
  go_wp2_with fail
  refine fresh_d (fun W => Pen W wc.heap.size gp o u mx e1 ∧ RPen W gx u mx e1 ∧ Below w.heap.size w W ∧ PgIn W x g A1 A2 c1 c2) (fun n => ⟨hp12.drewN n, hr12, below_drewN hb n, hG⟩) (by have h := ref02_End gx u mx e1 _ hr12; rw [HPE.out] at h; exact h) ?_
  rintro w13 ⟨hp13, hr13, hb13, hG13⟩
  obtain ⟨v0, _, _, _, _⟩ := hr13.cells
  clear hp12 hr12 hb hG HPE
  go_wp2_with fail
  go_quiet ((first
    | (go_at_call 47; exact quiet_l (pen_Len _ gp _ _ _ _ _ (by exact hp13)))))
  replace hG13 : PgIn (w13.drewN nq) x g A1 A2 c1 c2 := hG13
  replace hb13 := below_drewN hb13 nq
  clear v0 hp13 hr13
  generalize w13.drewN nq = w14 at *
  by_cases hf : f = 0
  · subst hf
    obtain ⟨hpk, hS⟩ := hok rfl
    have hdec : pgD S = (g, 0) := by rw [hS]; exact pgD_enc hpk hsb
    have HDC := Lib.hid hdec
    clear hdec hS hok hpk
    go_wp2_with fail
    refine page_Decode S w14 (by omega) ?_
    rw [HDC.out]
    dsimp only
    intro A3 A4 c3 c4 w15 r3 r4 _ _ hb15
    replace hG13 := hG13.below hb15
    replace hb13 := hb13.trans (hb15.mono hb13.size)
    unfold pgA
    go_upto_region 21 with fail
    have hZ := Blk.new w15 27 #[.string g.pre, .bool g.leaf, .slice A3 g.sl.length c3, .slice A4 g.it.length c4]
    have hbz := (Below.refl w15.heap.size w15).alloc (Nat.le_refl _) (.cells #[.string g.pre, .bool g.leaf, .slice A3 g.sl.length c3, .slice A4 g.it.length c4] 27)
    replace hG13 := hG13.below hbz
    replace r3 := r3.below hbz (Nat.le_refl _)
    replace r4 := r4.below hbz (Nat.le_refl _)
    replace hb13 := hb13.trans (hbz.mono hb13.size)
    clear hbz hb15
    generalize (w15.alloc (.cells #[.string g.pre, .bool g.leaf, .slice A3 g.sl.length c3, .slice A4 g.it.length c4] 27)) = w16 at *
    generalize w15.heap.size = z at *
    obtain ⟨q0, q1, q2, q3⟩ := hG13.cells
    have z0 := hZ.cell 0
    have z1 := hZ.cell 1
    have z2 := hZ.cell 2
    have z3 := hZ.cell 3
    dsimp at z0 z1 z2 z3
    go_wp2_with fail
    refine ref20_Same g g A3 A4 A1 A2 c3 c4 c1 c2 w16 r3 r4 hG13.2.1 hG13.2.2 hl1 hl2 ?_
    rw [sameR_self]
    intro w17 hb17
    go_wp2_with fail
    first | exact ⟨rfl, hb13.trans (hb17.mono hb13.size)⟩ | (go_ret; exact ⟨rfl, hb13.trans (hb17.mono hb13.size)⟩)
  · have hfb : (f != 0) = true := by simpa using hf
    go_wp2_with fail
    first | exact ⟨rfl, hb13⟩ | (go_ret; exact ⟨rfl, hb13⟩)
end
end Go.Proofs.Ytokjkpoegcnijaa
