/- dotted.right. -/
import Derived.Test.YtgjiedjfplbipaaDotBase
namespace Go.Proofs.Ytgjiedjfplbipaa
open Go.RowKit Go.Lib
section
theorem Row.ck {w : World} {A : Option Addr} {l : List Ck} (h : Row w A (flat ckC l)) (i : Nat) (hi : i < l.length) :
    ∃ b o, A = some ⟨b, o, none⟩ ∧ b < w.heap.size ∧ w.cell? ⟨b, o + i * 4, none⟩ = some (vcV (l.getD i ck0).1) ∧ w.cell? ⟨b, o + i * 4 + 1, none⟩ = some (.bool (l.getD i ck0).2.1) ∧
      w.cell? ⟨b, o + i * 4 + 2, none⟩ = some (.string (l.getD i ck0).2.2.1) ∧ w.cell? ⟨b, o + i * 4 + 3, none⟩ = some (.int .u64 (l.getD i ck0).2.2.2) := by
  obtain ⟨b, o, hA, hlt, hc⟩ := h.at_ ckC_len (by decide) i hi
  refine ⟨b, o, hA, hlt, ?_, ?_, ?_, ?_⟩ <;> rw [getD_at l i _ hi]
  · exact hc 0 _ rfl
  · rw [Nat.add_assoc]; exact hc 1 _ rfl
  · rw [Nat.add_assoc]; exact hc 2 _ rfl
  · rw [Nat.add_assoc]; exact hc 3 _ rfl
/-- The clocks' vectors stand in a world. -/
def Cks (w : World) (l : List Ck) : Prop := ∀ x ∈ l, Row w x.1.2.1 (flat enC x.1.1)
theorem Cks.below {w w' : World} {B : Nat} {l : List Ck} (h : Cks w l) (hb : Below B w w') (hB : w.heap.size ≤ B) : Cks w' l := fun x hx => (h x hx).below hb hB
theorem Cks.at_ {w : World} {l : List Ck} (h : Cks w l) (i : Nat) (hi : i < l.length) : Row w (l.getD i ck0).1.2.1 (flat enC (l.getD i ck0).1.1) := by rw [getD_at l i _ hi]; exact h _ (List.getElem_mem hi)
def okK (k : Ck) : Bool := decide (checkK k.1.1 k.2.1 k.2.2.1 k.2.2.2 = 0)
def rtK : List Ck → Bool
  | [] => true
  | x :: l => okK x && rtK l
theorem rtK_step {l : List Ck} {j : Nat} (h : j < l.length) : rtK (l.drop j) = (okK (l.getD j ck0) && rtK (l.drop (j + 1))) := by
  rw [List.drop_eq_getElem_cons h, rtK, getD_at l j _ h]
set_option maxRecDepth 100000 in
theorem dright_1 (v : List En) (A : Option Addr) (c : Nat) (b : Bool) (s : ByteArray) (n : Int) (w : World) (h : Row w A (flat enC v)) {R : Ending → World → Prop}
    (hR : ∀ w', Below w.heap.size w w' → R (.returned (.bool (!decide (checkK v b s n = 0)))) w') :
    Calls Try.prog 117 #[.agg #[.slice A v.length c, .bool b, .string s, .int .u64 n]] w R := by
  have HR := Lib.hid hR
  clear hR
  have hck := fun W h R => dotted_Check v A c b s n W h (R := R)
  generalize checkK v b s n = z at *
  go_enter Try.func117, Try.ntmps117
  go_wp2_with fail
  refine hck _ (h.alloc _) _ ?_
  intro w' hb
  have hbw := ((Below.refl w.heap.size w).alloc (Nat.le_refl _) (.cells #[.slice A v.length c, .bool b, .string s, .int .u64 n] 84))
  replace hbw := hbw.trans (hb.mono hbw.size)
  clear hb hck
  by_cases hz : z = 0
  · have hz1 : (z != 0) = false := by simpa using hz
    rw [decide_eq_true hz] at HR
    clear hz
    go_wp2_with fail
    exact HR.out _ hbw
  · have hz1 : (z != 0) = true := by simpa using hz
    rw [decide_eq_false hz] at HR
    clear hz
    go_wp2_with fail
    exact HR.out _ hbw
set_option maxHeartbeats 2000000 in
set_option maxRecDepth 100000 in
theorem dotted_right (l : List Ck) (B : Option Addr) (d : Nat) (w : World) (h2 : Row w B (flat ckC l)) (h1 : Cks w l) {R : Ending → World → Prop}
    (hR : ∀ w', Below w.heap.size w w' → R (.returned (.bool (rtK l))) w') (hl : l.length ≤ 140737488351232) :
    Calls Try.prog 92 #[.slice B l.length d] w R := by
  have HR := Lib.hid hR
  clear hR
  have hl0 : (0 : Int) ≤ (l.length : Int) := Int.natCast_nonneg _
  obtain ⟨v, hv⟩ : ∃ v, rtK l = v := ⟨_, rfl⟩
  rw [hv] at HR
  have HV := Lib.hid (show rtK (l.drop 0) = v by rw [List.drop_zero]; exact hv)
  clear hv
  go_enter Try.func92, Try.ntmps92
  go_wp2_with (first
    | (go_at_call 116; go_enter Try.func116, Try.ntmps116)
    | (go_at_call 130; go_enter Try.func130, Try.ntmps130))
  go_loopw [8] (fun i w' => ∃ j : Nat, i = .int .i64 (j : Int) ∧ j ≤ l.length ∧ Hid (rtK (l.drop j) = v) ∧ Below w.heap.size w w') (fun i _ => l.length - (RowKit.intOf i).toNat)
  case atStart => exact ⟨0, rfl, Nat.zero_le _, HV, Below.refl _ _⟩
  case round =>
    clear HV
    obtain ⟨j, rfl, hj, HVJ, hx⟩ := hrel
    have hj0 : (0 : Int) ≤ (j : Int) := Int.natCast_nonneg _
    by_cases hlt : j < l.length
    · have hj1 : (j : Int) < (l.length : Int) := by omega
      have hjd : decide ((j : Int) < (l.length : Int)) = true := decide_eq_true hj1
      obtain ⟨b, o, hA, hb, d0, d1, d2, d3⟩ := (h2.below hx (Nat.le_refl _)).ck j hlt
      have hvj := HVJ.out
      rw [rtK_step hlt] at hvj
      have hr := (h1.at_ j hlt).below hx (Nat.le_refl _)
      obtain ⟨⟨⟨a, A, c⟩, bb, s, n⟩, hkm⟩ : ∃ x, l.getD j ck0 = x := ⟨_, rfl⟩
      rw [hkm] at d0 d1 d2 d3 hvj hr
      unfold vcV at d0
      unfold okK at hvj
      dsimp only at d0 d1 d2 d3 hvj hr
      replace HVJ := Lib.hid hvj
      subst hA
      clear hkm hvj
      go_wp2_with fail
      refine dright_1 a A c bb s n wr hr ?_
      intro w2 hb2
      replace hx := hx.trans (hb2.mono hx.size)
      have hvj := HVJ.out
      clear hr hb2 d0 d1 d2 d3 HVJ
      generalize decide (checkK a bb s n = 0) = z at *
      cases z
      · have hf : v = false := by simpa using hvj.symm
        subst hf
        clear hvj
        go_wp2_with fail
        exact HR.out _ hx
      · have HVJ := Lib.hid (show rtK (l.drop (j + 1)) = v by simpa using hvj)
        clear hvj
        go_wp2_with fail
        go_roundw
        case rel => exact ⟨j + 1, by go_num, by omega, HVJ, hx⟩
        case measure => simp [RowKit.intOf]; omega
    · have hje : j = l.length := by omega
      have hj1 : ¬ (j : Int) < (l.length : Int) := by omega
      have hjd : decide ((j : Int) < (l.length : Int)) = false := decide_eq_false hj1
      have hvj := HVJ.out
      rw [hje, List.drop_of_length_le (Nat.le_refl _), rtK] at hvj
      subst hvj
      clear hje HVJ
      go_wp2_with fail
      exact HR.out _ hx
end
end Go.Proofs.Ytgjiedjfplbipaa
/- dotted.covers, dotted.Knows, dotted.Covers, dotted.Same. -/
namespace Go.Proofs.Ytgjiedjfplbipaa
open Go.RowKit Go.Lib
section
/-- Does a clock know all events up to the last one of an entry? -/
def covX (v : List En) (b : Bool) (s : ByteArray) (n : Int) (x : En) : Bool := !decide (cntR x.1 v < x.2 - 1) && knowsR v b s n x.1 x.2
def covL (v : List En) (b : Bool) (s : ByteArray) (n : Int) : List En → Bool
  | [] => true
  | x :: l => covX v b s n x && covL v b s n l
theorem covL_step (v : List En) (b : Bool) (s : ByteArray) (n : Int) {l : List En} {j : Nat} (h : j < l.length) : covL v b s n (l.drop j) = (covX v b s n (l.getD j (emp, 0)) && covL v b s n (l.drop (j + 1))) := by
  rw [List.drop_eq_getElem_cons h, covL, getD_at l j _ h]
def posE (x : En) : Prop := 1 ≤ x.2 ∧ x.2 ≤ 18446744073709551615
theorem sub_wrap {m : Int} (h : 1 ≤ m) (h2 : m ≤ 18446744073709551615) : IntKind.u64.wrap (m - 1) = m - 1 := by rw [IntKind.wrap_u64]; omega
set_option maxHeartbeats 4000000 in
set_option maxRecDepth 100000 in
theorem covers_1 (v : List En) (A : Option Addr) (c : Nat) (b : Bool) (s : ByteArray) (n : Int) (k : ByteArray) (m : Int) (g : Nat) (w : World) (h : Row w A (flat enC v)) (hl : v.length ≤ 140737488351232) (hm : posE (k, m))
    (q0 : w.cell? ⟨g, 0, none⟩ = some (.slice A v.length c)) (q1 : w.cell? ⟨g, 1, none⟩ = some (.bool b)) (q2 : w.cell? ⟨g, 2, none⟩ = some (.string s)) (q3 : w.cell? ⟨g, 3, none⟩ = some (.int .u64 n)) {R : Ending → World → Prop}
    (hR : ∀ w', Below w.heap.size w w' → R (.returned (.bool (!covX v b s n (k, m)))) w') :
    Calls Try.prog 118 #[.agg #[.string k, .int .u64 m], .pointer (some ⟨g, 0, none⟩)] w R := by
  have HR := Lib.hid hR
  clear hR
  have hct := fun W h R => vector_Count v A c k W h hl (R := R)
  have hkn := fun W h R => dotted_knows v A c b s n k m W h hl (Int.le_trans (by decide) hm.1) (R := R)
  have hwr := sub_wrap hm.1 hm.2
  dsimp only at hwr
  clear hm
  unfold covX at HR
  dsimp only at HR
  generalize cntR k v = q at *
  generalize knowsR v b s n k m = y at *
  go_enter Try.func118, Try.ntmps118
  go_upto_region 1 with fail
  have hbyk := Blk.new w 82 #[.string k, .int .u64 m]
  have hbxx := (Below.refl w.heap.size w).alloc (Nat.le_refl _) (.cells #[.string k, .int .u64 m] 82)
  replace q0 := cell_below hbxx q0
  replace q1 := cell_below hbxx q1
  replace q2 := cell_below hbxx q2
  replace q3 := cell_below hbxx q3
  replace h := h.below hbxx (Nat.le_refl _)
  generalize w.alloc (.cells #[.string k, .int .u64 m] 82) = wb at *
  have r0 := hbyk.cell 0
  have r1 := hbyk.cell 1
  dsimp at r0 r1
  obtain ⟨bY, hbye⟩ : ∃ b, w.heap.size = b := ⟨_, rfl⟩
  rw [hbye] at r0 r1 ⊢
  clear hbye hbyk
  refine wp_region_held_drew (S := fun w' => w'.cell? ⟨g, 0, none⟩ = some (.slice A v.length c) ∧ w'.cell? ⟨g, 1, none⟩ = some (.bool b) ∧ w'.cell? ⟨g, 2, none⟩ = some (.string s) ∧ w'.cell? ⟨g, 3, none⟩ = some (.int .u64 n) ∧ w'.cell? ⟨bY, 0, none⟩ = some (.string k) ∧ w'.cell? ⟨bY, 1, none⟩ = some (.int .u64 m) ∧ Row w' A (flat enC v) ∧ Below w.heap.size w w') (by kernel_rfl) ⟨q0, q1, q2, q3, r0, r1, h, below_drewN hbxx _⟩ (fun hHeld => ?_)
  clear q0 q1 q2 q3 r0 r1 h hbxx
  first
    | (refine held_take (i := 0) (v := ?_) rfl (by kernel_rfl) (by kernel_rfl) (by kernel_rfl) (fun _ _ _ h => h) (by rfl) (by assumption) (fun w hSw => ?_) ?_
       rotate_left
       · (try dsimp only at hSw)
         go_simp
         try with_reducible rfl
       try simp only [Act.put, List.setIfInBounds_toArray, List.set_cons_zero, List.set_cons_succ])
    | (refine held_skip (i := 0) rfl (by kernel_rfl) (by kernel_rfl) (by kernel_rfl) (fun _ _ _ h => h) (by rfl) (by assumption) ?_
       try simp only [Act.put, List.setIfInBounds_toArray, List.set_cons_zero, List.set_cons_succ])
  first
    | (refine held_take (i := 1) (v := ?_) rfl (by kernel_rfl) (by kernel_rfl) (by kernel_rfl) (fun _ _ _ h => h) (by rfl) (by assumption) (fun w hSw => ?_) ?_
       rotate_left
       · (try dsimp only at hSw)
         go_simp
         try with_reducible rfl
       try simp only [Act.put, List.setIfInBounds_toArray, List.set_cons_zero, List.set_cons_succ])
    | (refine held_skip (i := 1) rfl (by kernel_rfl) (by kernel_rfl) (by kernel_rfl) (fun _ _ _ h => h) (by rfl) (by assumption) ?_
       try simp only [Act.put, List.setIfInBounds_toArray, List.set_cons_zero, List.set_cons_succ])
  first
    | (refine held_take (i := 2) (v := ?_) rfl (by kernel_rfl) (by kernel_rfl) (by kernel_rfl) (fun _ _ _ h => h) (by rfl) (by assumption) (fun w hSw => ?_) ?_
       rotate_left
       · (try dsimp only at hSw)
         go_simp
         try with_reducible rfl
       try simp only [Act.put, List.setIfInBounds_toArray, List.set_cons_zero, List.set_cons_succ])
    | (refine held_skip (i := 2) rfl (by kernel_rfl) (by kernel_rfl) (by kernel_rfl) (fun _ _ _ h => h) (by rfl) (by assumption) ?_
       try simp only [Act.put, List.setIfInBounds_toArray, List.set_cons_zero, List.set_cons_succ])
  first
    | (refine held_take (i := 3) (v := ?_) rfl (by kernel_rfl) (by kernel_rfl) (by kernel_rfl) (fun _ _ _ h => h) (by rfl) (by assumption) (fun w hSw => ?_) ?_
       rotate_left
       · (try dsimp only at hSw)
         go_simp
         try with_reducible rfl
       try simp only [Act.put, List.setIfInBounds_toArray, List.set_cons_zero, List.set_cons_succ])
    | (refine held_skip (i := 3) rfl (by kernel_rfl) (by kernel_rfl) (by kernel_rfl) (fun _ _ _ h => h) (by rfl) (by assumption) ?_
       try simp only [Act.put, List.setIfInBounds_toArray, List.set_cons_zero, List.set_cons_succ])
  first
    | (refine held_take (i := 5) (v := ?_) rfl (by kernel_rfl) (by kernel_rfl) (by kernel_rfl) (fun _ _ _ h => h) (by rfl) (by assumption) (fun w hSw => ?_) ?_
       rotate_left
       · (try dsimp only at hSw)
         go_simp
         try with_reducible rfl
       try simp only [Act.put, List.setIfInBounds_toArray, List.set_cons_zero, List.set_cons_succ])
    | (refine held_skip (i := 5) rfl (by kernel_rfl) (by kernel_rfl) (by kernel_rfl) (fun _ _ _ h => h) (by rfl) (by assumption) ?_
       try simp only [Act.put, List.setIfInBounds_toArray, List.set_cons_zero, List.set_cons_succ])
  first
    | (refine held_take (i := 6) (v := ?_) rfl (by kernel_rfl) (by kernel_rfl) (by kernel_rfl) (fun _ _ _ h => h) (by rfl) (by assumption) (fun w hSw => ?_) ?_
       rotate_left
       · (try dsimp only at hSw)
         go_simp
         try with_reducible rfl
       try simp only [Act.put, List.setIfInBounds_toArray, List.set_cons_zero, List.set_cons_succ])
    | (refine held_skip (i := 6) rfl (by kernel_rfl) (by kernel_rfl) (by kernel_rfl) (fun _ _ _ h => h) (by rfl) (by assumption) ?_
       try simp only [Act.put, List.setIfInBounds_toArray, List.set_cons_zero, List.set_cons_succ])
  refine held_take (i := 7) (v := ?_) rfl (by kernel_rfl) (by kernel_rfl) (by kernel_rfl) (fun _ _ _ h => h) (by rfl) (by assumption) (fun w hSw => ?_) ?_
  rotate_left
  · (try dsimp only at hSw)
    go_simp
    try with_reducible rfl
  try simp only [Act.put, List.setIfInBounds_toArray, List.set_cons_zero, List.set_cons_succ]
  try rw [hwr]
  clear hwr
  refine wpAnyH_ready (rs := [4]) (by kernel_rfl) (by simp) ?_
  refine held_cons (i := 4) rfl (by rfl) (fun K hK => ?_) AllReadyH.nil
  go_simp
  refine hct _ hHeld.2.2.2.2.2.2.1 _ ?_
  intro w2 hx2
  have hb2 := hx2.below (Nat.le_refl _) (fun _ _ => id)
  refine hK.out _ _ ⟨cell_below hb2 hHeld.1, cell_below hb2 hHeld.2.1, cell_below hb2 hHeld.2.2.1, cell_below hb2 hHeld.2.2.2.1, cell_below hb2 hHeld.2.2.2.2.1, cell_below hb2 hHeld.2.2.2.2.2.1, hHeld.2.2.2.2.2.2.1.below hb2 (Nat.le_refl _), hHeld.2.2.2.2.2.2.2.trans (hb2.mono hHeld.2.2.2.2.2.2.2.size)⟩ (fun hHeld => ?_)
  clear hK K
  try simp only [Act.put, List.setIfInBounds_toArray, List.set_cons_zero, List.set_cons_succ]
  clear hct hx2 hb2
  refine held_take (i := 8) (v := ?_) rfl (by kernel_rfl) (by kernel_rfl) (by kernel_rfl) (fun _ _ _ h => h) (by rfl) (by assumption) (fun w hSw => ?_) ?_
  rotate_left
  · (try dsimp only at hSw)
    go_simp
    try with_reducible rfl
  try simp only [Act.put, List.setIfInBounds_toArray, List.set_cons_zero, List.set_cons_succ]
  by_cases hq : q < m - 1
  · rw [decide_eq_true hq, Bool.not_true, Bool.false_and, Bool.not_false] at HR
    rw [decide_eq_true hq]
    clear hq
    first
      | (refine held_take (i := 9) (v := ?_) rfl (by kernel_rfl) (by kernel_rfl) (by kernel_rfl) (fun _ _ _ h => h) (by rfl) (by assumption) (fun w hSw => ?_) ?_
         rotate_left
         · (try dsimp only at hSw)
           go_simp
           try with_reducible rfl
         try simp only [Act.put, List.setIfInBounds_toArray, List.set_cons_zero, List.set_cons_succ])
      | (refine held_skip (i := 9) rfl (by kernel_rfl) (by kernel_rfl) (by kernel_rfl) (fun _ _ _ h => h) (by rfl) (by assumption) ?_
         try simp only [Act.put, List.setIfInBounds_toArray, List.set_cons_zero, List.set_cons_succ])
    first
      | (refine held_take (i := 10) (v := ?_) rfl (by kernel_rfl) (by kernel_rfl) (by kernel_rfl) (fun _ _ _ h => h) (by rfl) (by assumption) (fun w hSw => ?_) ?_
         rotate_left
         · (try dsimp only at hSw)
           go_simp
           try with_reducible rfl
         try simp only [Act.put, List.setIfInBounds_toArray, List.set_cons_zero, List.set_cons_succ])
      | (refine held_skip (i := 10) rfl (by kernel_rfl) (by kernel_rfl) (by kernel_rfl) (fun _ _ _ h => h) (by rfl) (by assumption) ?_
         try simp only [Act.put, List.setIfInBounds_toArray, List.set_cons_zero, List.set_cons_succ])
    first
      | (refine held_take (i := 11) (v := ?_) rfl (by kernel_rfl) (by kernel_rfl) (by kernel_rfl) (fun _ _ _ h => h) (by rfl) (by assumption) (fun w hSw => ?_) ?_
         rotate_left
         · (try dsimp only at hSw)
           go_simp
           try with_reducible rfl
         try simp only [Act.put, List.setIfInBounds_toArray, List.set_cons_zero, List.set_cons_succ])
      | (refine held_skip (i := 11) rfl (by kernel_rfl) (by kernel_rfl) (by kernel_rfl) (fun _ _ _ h => h) (by rfl) (by assumption) ?_
         try simp only [Act.put, List.setIfInBounds_toArray, List.set_cons_zero, List.set_cons_succ])
    first
      | (refine held_take (i := 12) (v := ?_) rfl (by kernel_rfl) (by kernel_rfl) (by kernel_rfl) (fun _ _ _ h => h) (by rfl) (by assumption) (fun w hSw => ?_) ?_
         rotate_left
         · (try dsimp only at hSw)
           go_simp
           try with_reducible rfl
         try simp only [Act.put, List.setIfInBounds_toArray, List.set_cons_zero, List.set_cons_succ])
      | (refine held_skip (i := 12) rfl (by kernel_rfl) (by kernel_rfl) (by kernel_rfl) (fun _ _ _ h => h) (by rfl) (by assumption) ?_
         try simp only [Act.put, List.setIfInBounds_toArray, List.set_cons_zero, List.set_cons_succ])
    first
      | (refine held_take (i := 13) (v := ?_) rfl (by kernel_rfl) (by kernel_rfl) (by kernel_rfl) (fun _ _ _ h => h) (by rfl) (by assumption) (fun w hSw => ?_) ?_
         rotate_left
         · (try dsimp only at hSw)
           go_simp
           try with_reducible rfl
         try simp only [Act.put, List.setIfInBounds_toArray, List.set_cons_zero, List.set_cons_succ])
      | (refine held_skip (i := 13) rfl (by kernel_rfl) (by kernel_rfl) (by kernel_rfl) (fun _ _ _ h => h) (by rfl) (by assumption) ?_
         try simp only [Act.put, List.setIfInBounds_toArray, List.set_cons_zero, List.set_cons_succ])
    first
      | (refine held_take (i := 14) (v := ?_) rfl (by kernel_rfl) (by kernel_rfl) (by kernel_rfl) (fun _ _ _ h => h) (by rfl) (by assumption) (fun w hSw => ?_) ?_
         rotate_left
         · (try dsimp only at hSw)
           go_simp
           try with_reducible rfl
         try simp only [Act.put, List.setIfInBounds_toArray, List.set_cons_zero, List.set_cons_succ])
      | (refine held_skip (i := 14) rfl (by kernel_rfl) (by kernel_rfl) (by kernel_rfl) (fun _ _ _ h => h) (by rfl) (by assumption) ?_
         try simp only [Act.put, List.setIfInBounds_toArray, List.set_cons_zero, List.set_cons_succ])
    first
      | (refine held_take (i := 15) (v := ?_) rfl (by kernel_rfl) (by kernel_rfl) (by kernel_rfl) (fun _ _ _ h => h) (by rfl) (by assumption) (fun w hSw => ?_) ?_
         rotate_left
         · (try dsimp only at hSw)
           go_simp
           try with_reducible rfl
         try simp only [Act.put, List.setIfInBounds_toArray, List.set_cons_zero, List.set_cons_succ])
      | (refine held_skip (i := 15) rfl (by kernel_rfl) (by kernel_rfl) (by kernel_rfl) (fun _ _ _ h => h) (by rfl) (by assumption) ?_
         try simp only [Act.put, List.setIfInBounds_toArray, List.set_cons_zero, List.set_cons_succ])
    have hbf := hHeld.2.2.2.2.2.2.2
    refine wpAnyH_done (by kernel_rfl) ?_ _
    go_wp2_with fail
    exact HR.out _ hbf
  rw [decide_eq_false hq, Bool.not_false, Bool.true_and] at HR
  rw [decide_eq_false hq]
  clear hq
  first
    | (refine held_take (i := 9) (v := ?_) rfl (by kernel_rfl) (by kernel_rfl) (by kernel_rfl) (fun _ _ _ h => h) (by rfl) (by assumption) (fun w hSw => ?_) ?_
       rotate_left
       · (try dsimp only at hSw)
         go_simp
         try with_reducible rfl
       try simp only [Act.put, List.setIfInBounds_toArray, List.set_cons_zero, List.set_cons_succ])
    | (refine held_skip (i := 9) rfl (by kernel_rfl) (by kernel_rfl) (by kernel_rfl) (fun _ _ _ h => h) (by rfl) (by assumption) ?_
       try simp only [Act.put, List.setIfInBounds_toArray, List.set_cons_zero, List.set_cons_succ])
  first
    | (refine held_take (i := 10) (v := ?_) rfl (by kernel_rfl) (by kernel_rfl) (by kernel_rfl) (fun _ _ _ h => h) (by rfl) (by assumption) (fun w hSw => ?_) ?_
       rotate_left
       · (try dsimp only at hSw)
         go_simp
         try with_reducible rfl
       try simp only [Act.put, List.setIfInBounds_toArray, List.set_cons_zero, List.set_cons_succ])
    | (refine held_skip (i := 10) rfl (by kernel_rfl) (by kernel_rfl) (by kernel_rfl) (fun _ _ _ h => h) (by rfl) (by assumption) ?_
       try simp only [Act.put, List.setIfInBounds_toArray, List.set_cons_zero, List.set_cons_succ])
  first
    | (refine held_take (i := 11) (v := ?_) rfl (by kernel_rfl) (by kernel_rfl) (by kernel_rfl) (fun _ _ _ h => h) (by rfl) (by assumption) (fun w hSw => ?_) ?_
       rotate_left
       · (try dsimp only at hSw)
         go_simp
         try with_reducible rfl
       try simp only [Act.put, List.setIfInBounds_toArray, List.set_cons_zero, List.set_cons_succ])
    | (refine held_skip (i := 11) rfl (by kernel_rfl) (by kernel_rfl) (by kernel_rfl) (fun _ _ _ h => h) (by rfl) (by assumption) ?_
       try simp only [Act.put, List.setIfInBounds_toArray, List.set_cons_zero, List.set_cons_succ])
  refine wpAnyH_ready (rs := [12]) (by kernel_rfl) (by simp) ?_
  refine held_cons (i := 12) rfl (by rfl) (fun K hK => ?_) AllReadyH.nil
  go_simp
  refine hkn _ hHeld.2.2.2.2.2.2.1 _ ?_
  intro w2 hb2
  refine hK.out _ _ ⟨cell_below hb2 hHeld.1, cell_below hb2 hHeld.2.1, cell_below hb2 hHeld.2.2.1, cell_below hb2 hHeld.2.2.2.1, cell_below hb2 hHeld.2.2.2.2.1, cell_below hb2 hHeld.2.2.2.2.2.1, hHeld.2.2.2.2.2.2.1.below hb2 (Nat.le_refl _), hHeld.2.2.2.2.2.2.2.trans (hb2.mono hHeld.2.2.2.2.2.2.2.size)⟩ (fun hHeld => ?_)
  clear hK K
  try simp only [Act.put, List.setIfInBounds_toArray, List.set_cons_zero, List.set_cons_succ]
  clear hkn hb2
  first
    | (refine held_take (i := 13) (v := ?_) rfl (by kernel_rfl) (by kernel_rfl) (by kernel_rfl) (fun _ _ _ h => h) (by rfl) (by assumption) (fun w hSw => ?_) ?_
       rotate_left
       · (try dsimp only at hSw)
         go_simp
         try with_reducible rfl
       try simp only [Act.put, List.setIfInBounds_toArray, List.set_cons_zero, List.set_cons_succ])
    | (refine held_skip (i := 13) rfl (by kernel_rfl) (by kernel_rfl) (by kernel_rfl) (fun _ _ _ h => h) (by rfl) (by assumption) ?_
       try simp only [Act.put, List.setIfInBounds_toArray, List.set_cons_zero, List.set_cons_succ])
  first
    | (refine held_take (i := 14) (v := ?_) rfl (by kernel_rfl) (by kernel_rfl) (by kernel_rfl) (fun _ _ _ h => h) (by rfl) (by assumption) (fun w hSw => ?_) ?_
       rotate_left
       · (try dsimp only at hSw)
         go_simp
         try with_reducible rfl
       try simp only [Act.put, List.setIfInBounds_toArray, List.set_cons_zero, List.set_cons_succ])
    | (refine held_skip (i := 14) rfl (by kernel_rfl) (by kernel_rfl) (by kernel_rfl) (fun _ _ _ h => h) (by rfl) (by assumption) ?_
       try simp only [Act.put, List.setIfInBounds_toArray, List.set_cons_zero, List.set_cons_succ])
  first
    | (refine held_take (i := 15) (v := ?_) rfl (by kernel_rfl) (by kernel_rfl) (by kernel_rfl) (fun _ _ _ h => h) (by rfl) (by assumption) (fun w hSw => ?_) ?_
       rotate_left
       · (try dsimp only at hSw)
         go_simp
         try with_reducible rfl
       try simp only [Act.put, List.setIfInBounds_toArray, List.set_cons_zero, List.set_cons_succ])
    | (refine held_skip (i := 15) rfl (by kernel_rfl) (by kernel_rfl) (by kernel_rfl) (fun _ _ _ h => h) (by rfl) (by assumption) ?_
       try simp only [Act.put, List.setIfInBounds_toArray, List.set_cons_zero, List.set_cons_succ])
  have hbf := hHeld.2.2.2.2.2.2.2
  refine wpAnyH_done (by kernel_rfl) ?_ _
  go_wp2_with fail
  exact HR.out _ hbf
set_option maxHeartbeats 2000000 in
set_option maxRecDepth 100000 in
theorem index_covers (v l : List En) (A B : Option Addr) (c d g : Nat) (b : Bool) (s : ByteArray) (n : Int) (w : World) (h1 : Row w A (flat enC v)) (h2 : Row w B (flat enC l)) (hla : v.length ≤ 140737488351232) (hl : l.length ≤ 140737488351232)
    (hp : ∀ x ∈ l, posE x) (q0 : w.cell? ⟨g, 0, none⟩ = some (.slice A v.length c)) (q1 : w.cell? ⟨g, 1, none⟩ = some (.bool b)) (q2 : w.cell? ⟨g, 2, none⟩ = some (.string s)) (q3 : w.cell? ⟨g, 3, none⟩ = some (.int .u64 n)) {R : Ending → World → Prop}
    (hR : ∀ r w', decide (0 ≤ r) = !covL v b s n l → Below w.heap.size w w' → R (.returned (.int .i64 r)) w') :
    Calls Try.prog 126 #[.slice B l.length d, .func (.func 118) #[] #[.pointer (some ⟨g, 0, none⟩)]] w R := by
  have HR := Lib.hid hR
  have HP := Lib.hid hp
  clear hR hp
  have hl0 : (0 : Int) ≤ (l.length : Int) := Int.natCast_nonneg _
  obtain ⟨z, hz⟩ : ∃ z, covL v b s n l = z := ⟨_, rfl⟩
  rw [hz] at HR
  have HV := Lib.hid (show covL v b s n (l.drop 0) = z by rw [List.drop_zero]; exact hz)
  clear hz
  go_enter Try.func126, Try.ntmps126
  go_wp2_with fail
  go_loopw [8] (fun i w' => ∃ j : Nat, i = .int .i64 (j : Int) ∧ j ≤ l.length ∧ Hid (covL v b s n (l.drop j) = z) ∧ Below w.heap.size w w') (fun i _ => l.length - (RowKit.intOf i).toNat)
  case atStart => exact ⟨0, rfl, Nat.zero_le _, HV, Below.refl _ _⟩
  case round =>
    clear HV
    obtain ⟨j, rfl, hj, HVJ, hx⟩ := hrel
    have hj0 : (0 : Int) ≤ (j : Int) := Int.natCast_nonneg _
    by_cases hlt : j < l.length
    · have hj1 : (j : Int) < (l.length : Int) := by omega
      have hjd : decide ((j : Int) < (l.length : Int)) = true := decide_eq_true hj1
      obtain ⟨b', o, hA, hb, d0, d1⟩ := (h2.below hx (Nat.le_refl _)).en j hlt
      have hr := h1.below hx (Nat.le_refl _)
      have p0 := cell_below hx q0
      have p1 := cell_below hx q1
      have p2 := cell_below hx q2
      have p3 := cell_below hx q3
      have hpos := HP.out (l.getD j (emp, 0)) (by rw [getD_at l j _ hlt]; exact List.getElem_mem hlt)
      obtain ⟨⟨k, m⟩, hkm⟩ : ∃ x, l.getD j (emp, 0) = x := ⟨_, rfl⟩
      have hvj := HVJ.out
      rw [covL_step v b s n hlt, hkm] at hvj
      rw [hkm] at d0 d1 hpos
      dsimp only at d0 d1 hvj
      replace HVJ := Lib.hid hvj
      have HPOS := Lib.hid hpos
      subst hA
      clear hkm hvj hpos
      go_wp2_with fail
      refine covers_1 v A c b s n k m g wr hr hla HPOS.out p0 p1 p2 p3 ?_
      intro w2 hb2
      replace hx := hx.trans (hb2.mono hx.size)
      have hvj := HVJ.out
      clear hr p0 p1 p2 p3 hb2 d0 d1 HVJ HPOS
      generalize covX v b s n (k, m) = y at *
      cases y
      · have hf : z = false := by simpa using hvj.symm
        subst hf
        clear hvj
        go_wp2_with fail
        exact HR.out _ _ (by simp) hx
      · have HVJ := Lib.hid (show covL v b s n (l.drop (j + 1)) = z by simpa using hvj)
        clear hvj
        go_wp2_with fail
        go_roundw
        case rel => exact ⟨j + 1, by go_num, by omega, HVJ, hx⟩
        case measure => simp [RowKit.intOf]; omega
    · have hje : j = l.length := by omega
      have hj1 : ¬ (j : Int) < (l.length : Int) := by omega
      have hjd : decide ((j : Int) < (l.length : Int)) = false := decide_eq_false hj1
      have hvj := HVJ.out
      rw [hje, List.drop_of_length_le (Nat.le_refl _), covL] at hvj
      subst hvj
      clear hje HVJ
      go_wp2_with fail
      exact HR.out _ _ (by decide) hx
end
end Go.Proofs.Ytgjiedjfplbipaa
/- dotted.covers, dotted.Knows, dotted.Covers, dotted.Same. -/
namespace Go.Proofs.Ytgjiedjfplbipaa
open Go.RowKit Go.Lib
section
def coversR (v : List En) (b : Bool) (s : ByteArray) (n : Int) (v2 : List En) (b2 : Bool) (s2 : ByteArray) (n2 : Int) : Bool := (!b2 || knowsR v b s n s2 n2) && covL v b s n v2
set_option maxHeartbeats 4000000 in
set_option maxRecDepth 100000 in
theorem dotted_covers (v v2 : List En) (A A2 : Option Addr) (c c2 : Nat) (b b2 : Bool) (s s2 : ByteArray) (n n2 : Int) (w : World) (h1 : Row w A (flat enC v)) (h2 : Row w A2 (flat enC v2)) (hl1 : v.length ≤ 140737488351232) (hl2 : v2.length ≤ 140737488351232)
    (hp : ∀ x ∈ v2, posE x) (hn : 0 ≤ n2) {R : Ending → World → Prop}
    (hR : ∀ w', Below w.heap.size w w' → R (.returned (.bool (coversR v b s n v2 b2 s2 n2))) w') :
    Calls Try.prog 94 #[.agg #[.slice A v.length c, .bool b, .string s, .int .u64 n], .agg #[.slice A2 v2.length c2, .bool b2, .string s2, .int .u64 n2]] w R := by
  have HR := Lib.hid hR
  have HP := Lib.hid hp
  clear hR hp
  unfold coversR at HR
  go_enter Try.func94, Try.ntmps94
  go_upto_region 1 with fail
  have hbxk := Blk.new w 84 #[.slice A v.length c, .bool b, .string s, .int .u64 n]
  have hbxx := (Below.refl w.heap.size w).alloc (Nat.le_refl _) (.cells #[.slice A v.length c, .bool b, .string s, .int .u64 n] 84)
  have hsz : (w.alloc (.cells #[.slice A v.length c, .bool b, .string s, .int .u64 n] 84)).heap.size = w.heap.size + 1 := by simp
  generalize w.alloc (.cells #[.slice A v.length c, .bool b, .string s, .int .u64 n] 84) = wa at *
  have hbyk := Blk.new wa 84 #[.slice A2 v2.length c2, .bool b2, .string s2, .int .u64 n2]
  rw [hsz] at hbyk
  replace hbxk := hbxk.alloc (.cells #[.slice A2 v2.length c2, .bool b2, .string s2, .int .u64 n2] 84)
  replace hbxx := hbxx.alloc hbxx.size (.cells #[.slice A2 v2.length c2, .bool b2, .string s2, .int .u64 n2] 84)
  generalize wa.alloc (.cells #[.slice A2 v2.length c2, .bool b2, .string s2, .int .u64 n2] 84) = wb at *
  have q0 := hbxk.cell 0
  have q1 := hbxk.cell 1
  have q2 := hbxk.cell 2
  have q3 := hbxk.cell 3
  have r0 := hbyk.cell 0
  have r1 := hbyk.cell 1
  have r2 := hbyk.cell 2
  have r3 := hbyk.cell 3
  dsimp at q0 q1 q2 q3 r0 r1 r2 r3
  obtain ⟨bx, hbxe⟩ : ∃ b, w.heap.size = b := ⟨_, rfl⟩
  obtain ⟨bY, hbye⟩ : ∃ b, w.heap.size + 1 = b := ⟨_, rfl⟩
  rw [hbye] at r0 r1 r2 r3 ⊢
  rw [hbxe] at q0 q1 q2 q3 ⊢
  clear hsz hbxe hbye hbxk hbyk
  replace h1 := h1.below hbxx (Nat.le_refl _)
  replace h2 := h2.below hbxx (Nat.le_refl _)
  have hkn := fun R => dotted_knows v A c b s n s2 n2 wb h1 hl1 hn (R := R)
  have hwn : ∃ wn, Below wb.heap.size wb wn ∧ wn = wb := ⟨wb, Below.refl _ _, rfl⟩
  have hic := fun W h1 h2 g q0 q1 q2 q3 R => index_covers v v2 A A2 c c2 g b s n W h1 h2 hl1 hl2 HP.out q0 q1 q2 q3 (R := R)
  generalize knowsR v b s n s2 n2 = y at *
  generalize covL v b s n v2 = z at *
  clear hwn
  cases b2
  · simp only [Bool.not_false, Bool.true_or, Bool.true_and] at HR
    clear hkn
    go_wp2_with (first
      | (go_at_call 112; go_enter Try.func112, Try.ntmps112))
    refine hic _ h1 h2 _ q0 q1 q2 q3 _ ?_
    intro r w2 hr hb2
    replace hbxx := hbxx.trans (hb2.mono hbxx.size)
    clear h1 h2 q0 q1 q2 q3 r0 r1 r2 r3 hb2 hic
    cases z
    · have hr' : decide (0 ≤ r) = true := hr
      have hr2 : 0 ≤ r := of_decide_eq_true hr'
      clear hr
      go_wp2_with fail
      exact HR.out _ hbxx
    · have hr' : decide (0 ≤ r) = false := hr
      have hr2 : ¬ 0 ≤ r := of_decide_eq_false hr'
      clear hr
      go_wp2_with fail
      exact HR.out _ hbxx
  simp only [Bool.not_true, Bool.false_or] at HR
  go_wp2_with fail
  refine hkn _ ?_
  intro w2 hb2
  replace hbxx := hbxx.trans (hb2.mono hbxx.size)
  clear hkn
  cases y
  · simp only [Bool.false_and] at HR
    go_wp2_with fail
    exact HR.out _ hbxx
  simp only [Bool.true_and] at HR
  replace h1 := h1.below hb2 (Nat.le_refl _)
  replace h2 := h2.below hb2 (Nat.le_refl _)
  replace q0 := cell_below hb2 q0
  replace q1 := cell_below hb2 q1
  replace q2 := cell_below hb2 q2
  replace q3 := cell_below hb2 q3
  replace r0 := cell_below hb2 r0
  clear r1 r2 r3 hb2
  go_wp2_with (first
    | (go_at_call 112; go_enter Try.func112, Try.ntmps112))
  refine hic _ h1 h2 _ q0 q1 q2 q3 _ ?_
  intro r w3 hr hb3
  replace hbxx := hbxx.trans (hb3.mono hbxx.size)
  clear h1 h2 q0 q1 q2 q3 r0 hb3 hic
  cases z
  · have hr' : decide (0 ≤ r) = true := hr
    have hr2 : 0 ≤ r := of_decide_eq_true hr'
    clear hr
    go_wp2_with fail
    exact HR.out _ hbxx
  · have hr' : decide (0 ≤ r) = false := hr
    have hr2 : ¬ 0 ≤ r := of_decide_eq_false hr'
    clear hr
    go_wp2_with fail
    exact HR.out _ hbxx
theorem rtK_one (k : Ck) : rtK [k] = okK k := by simp [rtK]
theorem rtK_two (k k2 : Ck) : rtK [k, k2] = (okK k && okK k2) := by simp [rtK]
theorem cks_one {w : World} {k : Ck} (h : Row w k.1.2.1 (flat enC k.1.1)) : Cks w [k] := fun x hx => by rw [List.mem_singleton] at hx; subst hx; exact h
theorem cks_two {w : World} {k k2 : Ck} (h : Row w k.1.2.1 (flat enC k.1.1)) (h2 : Row w k2.1.2.1 (flat enC k2.1.1)) : Cks w [k, k2] := fun x hx => by
  simp only [List.mem_cons, List.not_mem_nil, or_false] at hx
  rcases hx with rfl | rfl
  · exact h
  · exact h2
set_option maxHeartbeats 4000000 in
set_option maxRecDepth 100000 in
theorem dotted_Knows (v : List En) (A : Option Addr) (c : Nat) (b : Bool) (s : ByteArray) (n : Int) (k : ByteArray) (m : Int) (w : World) (h : Row w A (flat enC v)) (hl : v.length ≤ 140737488351232) (hm0 : 0 ≤ m) {R : Ending → World → Prop}
    (hR : ∀ w', Below w.heap.size w w' → R (.returned (.bool (okK ((v, A, c), b, s, n) && knowsR v b s n k m))) w') :
    Calls Try.prog 53 #[.agg #[.slice A v.length c, .bool b, .string s, .int .u64 n], .string k, .int .u64 m] w R := by
  have HR := Lib.hid hR
  clear hR
  go_enter Try.func53, Try.ntmps53
  go_upto_region 1 with fail
  have hbxk := Blk.new w 84 #[.slice A v.length c, .bool b, .string s, .int .u64 n]
  have hbxx := (Below.refl w.heap.size w).alloc (Nat.le_refl _) (.cells #[.slice A v.length c, .bool b, .string s, .int .u64 n] 84)
  generalize w.alloc (.cells #[.slice A v.length c, .bool b, .string s, .int .u64 n] 84) = wa at *
  have q0 := hbxk.cell 0
  have q1 := hbxk.cell 1
  have q2 := hbxk.cell 2
  have q3 := hbxk.cell 3
  dsimp at q0 q1 q2 q3
  obtain ⟨bx, hbxe⟩ : ∃ b, w.heap.size = b := ⟨_, rfl⟩
  rw [hbxe] at q0 q1 q2 q3 ⊢
  have HBX := Lib.hid hbxe
  clear hbxe hbxk
  replace h := h.below hbxx (Nat.le_refl _)
  have hkn := fun W h R => dotted_knows v A c b s n k m W h hl hm0 (R := R)
  go_wp2_with fail
  have hb0 := (Below.refl wa.heap.size wa).alloc (Nat.le_refl _) (.cells #[.slice A v.length c, .bool b, .string s, .int .u64 n] 84)
  have hrow : Row (wa.alloc (.cells #[.slice A v.length c, .bool b, .string s, .int .u64 n] 84)) (some ⟨wa.heap.size, 0, none⟩) (flat ckC [((v, A, c), b, s, n)]) := Row.new wa 84 #[.slice A v.length c, .bool b, .string s, .int .u64 n]
  refine dotted_right [((v, A, c), b, s, n)] _ 1 _ hrow (cks_one (h.below hb0 (Nat.le_refl _))) ?_ (by simp)
  rw [rtK_one]
  intro w1 hb1
  replace hb1 := hb0.trans (hb1.mono hb0.size)
  replace h := h.below hb1 (Nat.le_refl _)
  replace q0 := cell_below hb1 q0
  replace q1 := cell_below hb1 q1
  replace q2 := cell_below hb1 q2
  replace q3 := cell_below hb1 q3
  replace hbxx := hbxx.trans (hb1.mono hbxx.size)
  clear hb0 hb1 hrow
  generalize okK ((v, A, c), b, s, n) = z at *
  generalize knowsR v b s n k m = y at *
  cases z
  · simp only [Bool.false_and] at HR
    go_wp2_with fail
    exact HR.out _ hbxx
  simp only [Bool.true_and] at HR
  go_wp2_with fail
  refine hkn _ h _ ?_
  intro w2 hb2
  replace hbxx := hbxx.trans (hb2.mono hbxx.size)
  go_wp2_with fail
  exact HR.out _ hbxx
set_option maxHeartbeats 4000000 in
set_option maxRecDepth 100000 in
theorem dotted_Covers (v v2 : List En) (A A2 : Option Addr) (c c2 : Nat) (b b2 : Bool) (s s2 : ByteArray) (n n2 : Int) (w : World) (h1 : Row w A (flat enC v)) (h2 : Row w A2 (flat enC v2)) (hl1 : v.length ≤ 140737488351232) (hl2 : v2.length ≤ 140737488351232)
    (hp : checkE v2 = 0 → ∀ x ∈ v2, posE x) (hn : 0 ≤ n2) {R : Ending → World → Prop}
    (hR : ∀ w', Below w.heap.size w w' → R (.returned (.bool ((okK ((v, A, c), b, s, n) && okK ((v2, A2, c2), b2, s2, n2)) && coversR v b s n v2 b2 s2 n2))) w') :
    Calls Try.prog 54 #[.agg #[.slice A v.length c, .bool b, .string s, .int .u64 n], .agg #[.slice A2 v2.length c2, .bool b2, .string s2, .int .u64 n2]] w R := by
  have HR := Lib.hid hR
  clear hR
  go_enter Try.func54, Try.ntmps54
  go_upto_region 1 with fail
  have hbxk := Blk.new w 84 #[.slice A v.length c, .bool b, .string s, .int .u64 n]
  have hbxx := (Below.refl w.heap.size w).alloc (Nat.le_refl _) (.cells #[.slice A v.length c, .bool b, .string s, .int .u64 n] 84)
  have hsz : (w.alloc (.cells #[.slice A v.length c, .bool b, .string s, .int .u64 n] 84)).heap.size = w.heap.size + 1 := by simp
  generalize w.alloc (.cells #[.slice A v.length c, .bool b, .string s, .int .u64 n] 84) = wa at *
  have hbyk := Blk.new wa 84 #[.slice A2 v2.length c2, .bool b2, .string s2, .int .u64 n2]
  rw [hsz] at hbyk
  replace hbxk := hbxk.alloc (.cells #[.slice A2 v2.length c2, .bool b2, .string s2, .int .u64 n2] 84)
  replace hbxx := hbxx.alloc hbxx.size (.cells #[.slice A2 v2.length c2, .bool b2, .string s2, .int .u64 n2] 84)
  generalize wa.alloc (.cells #[.slice A2 v2.length c2, .bool b2, .string s2, .int .u64 n2] 84) = wb at *
  have q0 := hbxk.cell 0
  have q1 := hbxk.cell 1
  have q2 := hbxk.cell 2
  have q3 := hbxk.cell 3
  have r0 := hbyk.cell 0
  have r1 := hbyk.cell 1
  have r2 := hbyk.cell 2
  have r3 := hbyk.cell 3
  dsimp at q0 q1 q2 q3 r0 r1 r2 r3
  obtain ⟨bx, hbxe⟩ : ∃ b, w.heap.size = b := ⟨_, rfl⟩
  obtain ⟨bY, hbye⟩ : ∃ b, w.heap.size + 1 = b := ⟨_, rfl⟩
  rw [hbye] at r0 r1 r2 r3 ⊢
  rw [hbxe] at q0 q1 q2 q3 ⊢
  clear hsz hbxe hbye hbxk hbyk
  replace h1 := h1.below hbxx (Nat.le_refl _)
  replace h2 := h2.below hbxx (Nat.le_refl _)
  have hcv := fun W h1 h2 hp R => dotted_covers v v2 A A2 c c2 b b2 s s2 n n2 W h1 h2 hl1 hl2 hp hn (R := R)
  have hz2 : okK ((v2, A2, c2), b2, s2, n2) = true → checkE v2 = 0 := fun h => by
    have h := of_decide_eq_true h
    unfold checkK at h
    by_cases hz : checkE v2 = 0
    · exact hz
    · rw [if_pos hz] at h
      exact h
  go_wp2_with fail
  have hb0 := (Below.refl wb.heap.size wb).alloc (Nat.le_refl _) (.cells #[.slice A v.length c, .bool b, .string s, .int .u64 n, .slice A2 v2.length c2, .bool b2, .string s2, .int .u64 n2] 84)
  have hrow : Row (wb.alloc (.cells #[.slice A v.length c, .bool b, .string s, .int .u64 n, .slice A2 v2.length c2, .bool b2, .string s2, .int .u64 n2] 84)) (some ⟨wb.heap.size, 0, none⟩) (flat ckC [((v, A, c), b, s, n), ((v2, A2, c2), b2, s2, n2)]) := Row.new wb 84 #[.slice A v.length c, .bool b, .string s, .int .u64 n, .slice A2 v2.length c2, .bool b2, .string s2, .int .u64 n2]
  refine dotted_right [((v, A, c), b, s, n), ((v2, A2, c2), b2, s2, n2)] _ 2 _ hrow (cks_two (h1.below hb0 (Nat.le_refl _)) (h2.below hb0 (Nat.le_refl _))) ?_ (by simp)
  rw [rtK_two]
  intro w1 hb1
  replace hb1 := hb0.trans (hb1.mono hb0.size)
  replace h1 := h1.below hb1 (Nat.le_refl _)
  replace h2 := h2.below hb1 (Nat.le_refl _)
  replace q0 := cell_below hb1 q0
  replace q1 := cell_below hb1 q1
  replace q2 := cell_below hb1 q2
  replace q3 := cell_below hb1 q3
  replace r0 := cell_below hb1 r0
  replace r1 := cell_below hb1 r1
  replace r2 := cell_below hb1 r2
  replace r3 := cell_below hb1 r3
  replace hbxx := hbxx.trans (hb1.mono hbxx.size)
  clear hb0 hb1 hrow
  generalize okK ((v, A, c), b, s, n) = z at *
  generalize okK ((v2, A2, c2), b2, s2, n2) = z2 at *
  generalize coversR v b s n v2 b2 s2 n2 = y at *
  cases z
  · simp only [Bool.false_and] at HR
    go_wp2_with fail
    exact HR.out _ hbxx
  cases z2
  · simp only [Bool.false_and, Bool.and_false] at HR
    go_wp2_with fail
    exact HR.out _ hbxx
  have HP := Lib.hid (hp (hz2 rfl))
  simp only [Bool.true_and] at HR
  clear hz2 hp
  go_wp2_with fail
  refine hcv _ h1 h2 HP.out _ ?_
  intro w2 hb2
  replace hbxx := hbxx.trans (hb2.mono hbxx.size)
  go_wp2_with fail
  exact HR.out _ hbxx
end
end Go.Proofs.Ytgjiedjfplbipaa
