/- spenceref26: counts as a list. -/
import Derived.Deep.RegionHeld
import Derived.Deep.RegionWith
import Derived.Deep.DrawnRows
import Derived.Deep.DeepCutAuto
import Derived.Test.YtjknchhclneneaaDoorHeld
import Derived.Test.YtjknchhclneneaaDoorAppendOper
import Derived.Test.YtjknchhclneneaaDoorCountText
import Derived.Test.YtjknchhclneneaaDoorRef20
import Derived.Test.YtjknchhclneneaaDoorOpenActs
import Derived.Test.YtjknchhclneneaaDoorCountNum
namespace Go.Proofs.YtjknchhclneneaaDoor
open Go.RowKit Go.Lib
section
theorem acC_one (x : Ct) : ∀ u ∈ acC x, u.oneCell' = true := fun u hu => by
  simp [acC] at hu
  rcases hu with rfl | rfl <;> rfl
theorem infoC_en : (Tryd.prog.info? 70).map (fun i => (i.zero, i.size, i.bytes)) = some (some (.agg #[.string ⟨#[]⟩, .int .i64 0]), 2, 24) := by kernel_rfl
/-- Counts as the reference holds them. -/
def RCt (w : World) (x B : Nat) (A : Option Addr) (c : Nat) (L : List Ct) : Prop :=
  Blk w x 51 #[.slice A L.length c] ∧ Own w B 70 2 acC (.slice A L.length c) L
def RF (x : Nat) (A : Option Addr) (n c : Nat) (b : Nat) : Prop := b = x ∨ (Value.slice A n c).ownBlock = some b
section
variable {w w' : World} {x B : Nat} {A : Option Addr} {c : Nat} {L : List Ct}
theorem RCt.lt (h : RCt w x B A c L) {b : Nat} (hb : RF x A L.length c b) : b < w.heap.size := by
  rcases hb with rfl | hb
  · exact h.1.lt
  · exact (h.2.lt b hb).2
theorem RCt.ext {S : Nat → Prop} (h : RCt w x B A c L) (he : Ext S w w') (hs : ∀ b, RF x A L.length c b → ¬ S b) : RCt w' x B A c L :=
  ⟨h.1.ext he (hs x (.inl rfl)), h.2.ext he (fun b hb => hs b (.inr hb))⟩
theorem RCt.below (h : RCt w x B A c L) (hb : Below w.heap.size w w') : RCt w' x B A c L := h.ext (Ext.of_below hb) (fun b hf => by have := h.lt hf; omega)
theorem RCt.cell (h : RCt w x B A c L) : w.cell? ⟨x, 0, none⟩ = some (.slice A L.length c) := (h.1.cell 0).trans rfl
theorem RCt.row (h : RCt w x B A c L) : Row w A (flat acC L) := Row.of_own h.2
end
theorem get_take {k : ByteArray} {L : List Ct} {j : Nat} (hj : j < L.length) (h : hasC k (L.take j) = false) : (if (L.getD j (emp, 0)).1 = k then getC k L = (L.getD j (emp, 0)).2 else hasC k (L.take (j + 1)) = false) := by
  have hs := take_snoc L j (emp, 0) hj
  obtain ⟨y, hy⟩ : ∃ y, L.getD j (emp, 0) = y := ⟨_, rfl⟩
  rw [hy] at hs ⊢
  split
  · rename_i e
    have hd : L = L.take j ++ y :: L.drop (j + 1) := by
      rw [← hy, getD_at L j _ hj, ← List.drop_eq_getElem_cons hj, List.take_append_drop]
    rw [hd]
    unfold getC
    rw [List.find?_append]
    have hn : (L.take j).find? (fun x => decide (x.1 = k)) = none := List.find?_eq_none.2 (fun x hx => by
      have := List.any_eq_false.1 h x hx
      simpa using this)
    rw [hn, List.find?_cons_of_pos (by simpa using e)]
    rfl
  · rename_i e
    rw [hs]
    unfold hasC at h ⊢
    rw [List.any_append, h]
    simp [e]
set_option maxHeartbeats 2000000 in
set_option maxRecDepth 100000 in
theorem ref26_Get (w : World) (x B : Nat) (A : Option Addr) (c : Nat) (L : List Ct) (k : ByteArray) (h : RCt w x B A c L) (hl : L.length ≤ 1000) {R : Ending → World → Prop} (hR : R (.returned (.int .i64 (getC k L))) w) :
    Calls Tryd.prog 14 #[.pointer (some ⟨x, 0, none⟩), .string k] w R := by
  have HR := Lib.hid hR
  clear hR
  have c0 := h.cell
  have hrow := h.row
  have hl0 : (0 : Int) ≤ (L.length : Int) := Int.natCast_nonneg _
  clear h
  go_enter Tryd.func14, Tryd.ntmps14
  go_wp2_with fail
  go_loopw [5] (fun i wx => ∃ j : Nat, i = .int .i64 (j : Int) ∧ j ≤ L.length ∧ hasC k (L.take j) = false ∧ wx = w) (fun i _ => L.length - (RowKit.intOf i).toNat)
  case atStart => exact ⟨0, rfl, Nat.zero_le _, rfl, rfl⟩
  case round =>
    obtain ⟨j, rfl, hj, hh, rfl⟩ := hrel
    have hj0 : (0 : Int) ≤ (j : Int) := Int.natCast_nonneg _
    by_cases hlt : j < L.length
    · have hj1 : (j : Int) < (L.length : Int) := by omega
      have hjd : decide ((j : Int) < (L.length : Int)) = true := decide_eq_true hj1
      obtain ⟨b, o, hA, _, d0, d1⟩ := hrow.ac j hlt
      have hgt := get_take hlt hh
      generalize L.getD j (emp, 0) = y at *
      obtain ⟨k2, n2⟩ := y
      dsimp only at d0 d1 hgt
      have hkb := toList_beq k2 k
      subst hA
      by_cases hkk : k2 = k
      · rw [if_pos hkk] at hgt
        rw [decide_eq_true hkk] at hkb
        rw [hgt] at HR
        clear hgt hh hkk
        go_wp2_with fail
        first | exact HR.out | (go_ret; exact HR.out)
      · rw [if_neg hkk] at hgt
        rw [decide_eq_false hkk] at hkb
        clear hkk
        go_wp2_with fail
        go_roundw
        case rel => exact ⟨j + 1, by go_num, by omega, hgt, by first | rfl | trivial⟩
        case measure => simp [RowKit.intOf]; omega
    · have hje : j = L.length := by omega
      have hj1 : ¬ (j : Int) < (L.length : Int) := by omega
      have hjd : decide ((j : Int) < (L.length : Int)) = false := decide_eq_false hj1
      rw [hje, List.take_length] at hh
      have hg0 : getC k L = 0 := by
        unfold getC
        rw [List.find?_eq_none.2 (fun x hx => by
          have := List.any_eq_false.1 hh x hx
          simpa using this)]
        rfl
      rw [hg0] at HR
      go_wp2_with fail
      first | exact HR.out | (go_ret; exact HR.out)
set_option maxHeartbeats 4000000 in
set_option maxRecDepth 100000 in
theorem ref26_Rows (w : World) (x B : Nat) (A : Option Addr) (c : Nat) (L : List Ct) (h : RCt w x B A c L) (hl : L.length ≤ 1000) (hr : RngC L) (hsm : ∀ y ∈ L, y.1.size ≤ 32) {R : Ending → World → Prop}
    (hR : ∀ A' c' w', Own w' w.heap.size 9 1 tC (.slice A' (rowsC L).length c') (rowsC L) → RowKit.Below w.heap.size w w' → R (.returned (.slice A' (rowsC L).length c')) w') :
    Calls Tryd.prog 16 #[.pointer (some ⟨x, 0, none⟩)] w R := by
  obtain ⟨i1, hi1, hJ0, hJ1, hJ2⟩ := info_parts infoC_str
  have HR := Lib.hid hR
  have HRG := Lib.hid hr
  have HSM := Lib.hid hsm
  clear hR hr hsm
  have hl0 : (0 : Int) ≤ (L.length : Int) := Int.natCast_nonneg _
  go_enter Tryd.func16, Tryd.ntmps16
  go_wp2_with fail
  go_loopw [3, 4] (fun s3 i wx => ∃ (j : Nat) (A' : Option Addr) (c' : Nat), i = .int .i64 (j : Int) ∧ j ≤ L.length ∧ s3 = .slice A' (rowsC (L.take j)).length c' ∧ Own wx w.heap.size 9 1 tC (.slice A' (rowsC (L.take j)).length c') (rowsC (L.take j)) ∧ RowKit.Below w.heap.size w wx) (fun _ i _ => L.length - (RowKit.intOf i).toNat)
  case atStart => exact ⟨0, none, 0, rfl, Nat.zero_le _, rfl, Own.nil _ _ _ _, Below.refl _ _⟩
  case round =>
    obtain ⟨j, A', c', rfl, hj, rfl, hown, hbx⟩ := hrel
    have hj0 : (0 : Int) ≤ (j : Int) := Int.natCast_nonneg _
    have c0 := (h.below hbx).cell
    by_cases hlt : j < L.length
    · have hj1 : (j : Int) < (L.length : Int) := by omega
      have hjd : decide ((j : Int) < (L.length : Int)) = true := decide_eq_true hj1
      obtain ⟨b, o, hA, hlb, d0, d1⟩ := h.row.ac j hlt
      have hmem : L.getD j (emp, 0) ∈ L := by rw [getD_at L j _ hlt]; exact List.getElem_mem hlt
      have hrg := HRG.out _ hmem
      have hks := HSM.out _ hmem
      have hsn : rowsC (L.take (j + 1)) = rowsC (L.take j) ++ [rowC (L.getD j (emp, 0))] := by
        unfold rowsC; rw [take_snoc L j (emp, 0) hlt, List.map_append]; rfl
      have hPl : (rowsC (L.take j)).length = j := by unfold rowsC; rw [List.length_map, List.length_take]; omega
      generalize L.getD j (emp, 0) = y at *
      obtain ⟨k, n⟩ := y
      dsimp only at d0 d1 hrg hks
      have hcell := fun (wx : World) (hb : RowKit.Below w.heap.size w wx) => And.intro ((h.below hb).cell) (And.intro (cell_below hb d0) (cell_below hb d1))
      have hz := numR_size hrg.1 hrg.2
      have hro : rowC (k, n) = k ++ ⟨#[32]⟩ ++ numR n := rfl
      rw [hro] at hsn
      obtain ⟨P, hP⟩ : ∃ P, rowsC (L.take j) = P := ⟨_, rfl⟩
      rw [hP] at hown hsn hPl ⊢
      have HSN := Lib.hid hsn
      have hlen2 : (P ++ [k ++ ⟨#[32]⟩ ++ numR n]).length = P.length + 1 := by simp
      have HLN := Lib.hid hlen2
      have hPm : P.length ≤ 1000 := by omega
      have hs3 : k.size + 1 ≤ 9223372036854775807 := by omega
      have hs3' : ¬ 9223372036854775807 < k.size + 1 := by omega
      have hs1 : ¬ 9223372036854775807 < k.size + (⟨#[32]⟩ : ByteArray).size := by show ¬ 9223372036854775807 < k.size + 1; omega
      have hks2 : (k ++ (⟨#[32]⟩ : ByteArray)).size = k.size + 1 := by rw [ByteArray.size_append]; rfl
      have hs2' : ¬ 9223372036854775807 < (k ++ (⟨#[32]⟩ : ByteArray)).size + (numR n).size := by omega
      have hs4' : ¬ 9223372036854775807 < k.size + 1 + (numR n).size := by omega
      have hnum := fun w => ref26_Num n hrg.1 hrg.2 w
      generalize numR n = nr at *
      subst hA
      clear hmem hro hsn hP hlen2 hks2 hPl
      have HCELL := Lib.hid hcell
      replace d0 := cell_below hbx d0
      replace d1 := cell_below hbx d1
      clear hcell
      go_wp2_with fail
      have s0 : wr.drew.cell? ⟨x, 0, none⟩ = some (.slice (some ⟨b, o, none⟩) L.length c) := c0
      have s1 : wr.drew.cell? ⟨b, o + j * 2, none⟩ = some (.string k) := d0
      have s2 : wr.drew.cell? ⟨b, o + j * 2 + 1, none⟩ = some (.int .i64 n) := d1
      refine wp_region_held_drew (S := fun w' => w'.cell? ⟨x, 0, none⟩ = some (.slice (some ⟨b, o, none⟩) L.length c) ∧ w'.cell? ⟨b, o + j * 2, none⟩ = some (.string k) ∧ w'.cell? ⟨b, o + j * 2 + 1, none⟩ = some (.int .i64 n)) (by kernel_rfl) ⟨s0, s1, s2⟩ (fun hHeld => ?_)
      have hSS := And.intro s0 (And.intro s1 s2)
      clear c0 d0 d1 s0 s1 s2 hHeld
      replace hown : Own wr.drew _ _ _ _ _ _ := hown
      replace hbx : Below w.heap.size w wr.drew := below_drewN hbx 1
      clear hlb
      generalize wr.drew = w3 at *
      refine held_take (i := 0) (v := ?_) rfl (by kernel_rfl) (by kernel_rfl) (by kernel_rfl) (fun _ _ _ h => h) (by rfl) (by assumption) (fun w hSw => ?_) ?_
      rotate_left
      · (try dsimp only at hSw)
        go_simp
        try with_reducible rfl
      try simp only [Act.put, List.setIfInBounds_toArray, List.set_cons_zero, List.set_cons_succ]
      refine held_take (i := 1) (v := ?_) rfl (by kernel_rfl) (by kernel_rfl) (by kernel_rfl) (fun _ _ _ h => h) (by rfl) (by assumption) (fun w hSw => ?_) ?_
      rotate_left
      · (try dsimp only at hSw)
        go_simp
        try with_reducible rfl
      try simp only [Act.put, List.setIfInBounds_toArray, List.set_cons_zero, List.set_cons_succ]
      refine held_take (i := 2) (v := ?_) rfl (by kernel_rfl) (by kernel_rfl) (by kernel_rfl) (fun _ _ _ h => h) (by rfl) (by assumption) (fun w hSw => ?_) ?_
      rotate_left
      · (try dsimp only at hSw)
        go_simp
        try with_reducible rfl
      try simp only [Act.put, List.setIfInBounds_toArray, List.set_cons_zero, List.set_cons_succ]
      refine held_take (i := 3) (v := ?_) rfl (by kernel_rfl) (by kernel_rfl) (by kernel_rfl) (fun _ _ _ h => h) (by rfl) (by assumption) (fun w hSw => ?_) ?_
      rotate_left
      · (try dsimp only at hSw)
        go_simp
        try with_reducible rfl
      try simp only [Act.put, List.setIfInBounds_toArray, List.set_cons_zero, List.set_cons_succ]
      refine held_take (i := 4) (v := ?_) rfl (by kernel_rfl) (by kernel_rfl) (by kernel_rfl) (fun _ _ _ h => h) (by rfl) (by assumption) (fun w hSw => ?_) ?_
      rotate_left
      · (try dsimp only at hSw)
        go_simp
        try with_reducible rfl
      try simp only [Act.put, List.setIfInBounds_toArray, List.set_cons_zero, List.set_cons_succ]
      refine held_take (i := 5) (v := ?_) rfl (by kernel_rfl) (by kernel_rfl) (by kernel_rfl) (fun _ _ _ h => h) (by rfl) (by assumption) (fun w hSw => ?_) ?_
      rotate_left
      · (try dsimp only at hSw)
        go_simp
        try with_reducible rfl
      try simp only [Act.put, List.setIfInBounds_toArray, List.set_cons_zero, List.set_cons_succ]
      refine held_take (i := 6) (v := ?_) rfl (by kernel_rfl) (by kernel_rfl) (by kernel_rfl) (fun _ _ _ h => h) (by rfl) (by assumption) (fun w hSw => ?_) ?_
      rotate_left
      · (try dsimp only at hSw)
        go_simp
        try with_reducible rfl
      try simp only [Act.put, List.setIfInBounds_toArray, List.set_cons_zero, List.set_cons_succ]
      refine held_take (i := 7) (v := ?_) rfl (by kernel_rfl) (by kernel_rfl) (by kernel_rfl) (fun _ _ _ h => h) (by rfl) (by assumption) (fun w hSw => ?_) ?_
      rotate_left
      · (try dsimp only at hSw)
        go_simp
        try with_reducible rfl
      try simp only [Act.put, List.setIfInBounds_toArray, List.set_cons_zero, List.set_cons_succ]
      refine held_take (i := 8) (v := ?_) rfl (by kernel_rfl) (by kernel_rfl) (by kernel_rfl) (fun _ _ _ h => h) (by rfl) (by assumption) (fun w hSw => ?_) ?_
      rotate_left
      · (try dsimp only at hSw)
        go_simp
        try with_reducible rfl
      try simp only [Act.put, List.setIfInBounds_toArray, List.set_cons_zero, List.set_cons_succ]
      refine held_take (i := 9) (v := ?_) rfl (by kernel_rfl) (by kernel_rfl) (by kernel_rfl) (fun _ _ _ h => h) (by rfl) (by assumption) (fun w hSw => ?_) ?_
      rotate_left
      · (try dsimp only at hSw)
        go_simp
        try with_reducible rfl
      try simp only [Act.put, List.setIfInBounds_toArray, List.set_cons_zero, List.set_cons_succ]
      refine held_take (i := 10) (v := ?_) rfl (by kernel_rfl) (by kernel_rfl) (by kernel_rfl) (fun _ _ _ h => h) (by rfl) (by assumption) (fun w hSw => ?_) ?_
      rotate_left
      · (try dsimp only at hSw)
        go_simp
        try with_reducible rfl
      try simp only [Act.put, List.setIfInBounds_toArray, List.set_cons_zero, List.set_cons_succ]
      refine held_take (i := 11) (v := ?_) rfl (by kernel_rfl) (by kernel_rfl) (by kernel_rfl) (fun _ _ _ h => h) (by rfl) (by assumption) (fun w hSw => ?_) ?_
      rotate_left
      · (try dsimp only at hSw)
        go_simp
        try with_reducible rfl
      try simp only [Act.put, List.setIfInBounds_toArray, List.set_cons_zero, List.set_cons_succ]
      refine held_take (i := 12) (v := ?_) rfl (by kernel_rfl) (by kernel_rfl) (by kernel_rfl) (fun _ _ _ h => h) (by rfl) (by assumption) (fun w hSw => ?_) ?_
      rotate_left
      · (try dsimp only at hSw)
        go_simp
        try with_reducible rfl
      try simp only [Act.put, List.setIfInBounds_toArray, List.set_cons_zero, List.set_cons_succ]
      refine held_take (i := 13) (v := ?_) rfl (by kernel_rfl) (by kernel_rfl) (by kernel_rfl) (fun _ _ _ h => h) (by rfl) (by assumption) (fun w hSw => ?_) ?_
      rotate_left
      · (try dsimp only at hSw)
        go_simp
        try with_reducible rfl
      try simp only [Act.put, List.setIfInBounds_toArray, List.set_cons_zero, List.set_cons_succ]
      refine held_take (i := 14) (v := ?_) rfl (by kernel_rfl) (by kernel_rfl) (by kernel_rfl) (fun _ _ _ h => h) (by rfl) (by assumption) (fun w hSw => ?_) ?_
      rotate_left
      · (try dsimp only at hSw)
        go_simp
        try with_reducible rfl
      try simp only [Act.put, List.setIfInBounds_toArray, List.set_cons_zero, List.set_cons_succ]
      refine held_take (i := 15) (v := ?_) rfl (by kernel_rfl) (by kernel_rfl) (by kernel_rfl) (fun _ _ _ h => h) (by rfl) (by assumption) (fun w hSw => ?_) ?_
      rotate_left
      · (try dsimp only at hSw)
        go_simp
        try with_reducible rfl
      try simp only [Act.put, List.setIfInBounds_toArray, List.set_cons_zero, List.set_cons_succ]
      refine held_take (i := 16) (v := ?_) rfl (by kernel_rfl) (by kernel_rfl) (by kernel_rfl) (fun _ _ _ h => h) (by rfl) (by assumption) (fun w hSw => ?_) ?_
      rotate_left
      · (try dsimp only at hSw)
        go_simp
        try with_reducible rfl
      try simp only [Act.put, List.setIfInBounds_toArray, List.set_cons_zero, List.set_cons_succ]
      refine held_take (i := 17) (v := ?_) rfl (by kernel_rfl) (by kernel_rfl) (by kernel_rfl) (fun _ _ _ h => h) (by rfl) (by assumption) (fun w hSw => ?_) ?_
      rotate_left
      · (try dsimp only at hSw)
        go_simp
        try with_reducible rfl
      try simp only [Act.put, List.setIfInBounds_toArray, List.set_cons_zero, List.set_cons_succ]
      refine wpAnyH_ready (rs := [18]) (by kernel_rfl) (by simp) ?_
      refine held_cons (i := 18) rfl (by rfl) (fun K hK => ?_) AllReadyH.nil
      go_simp
      refine (hnum w3).mono ?_
      rintro e w' ⟨rfl, rfl⟩
      dsimp only
      refine hK.out _ _ hSS (fun hHeld => ?_)
      clear hK K
      try simp only [Act.put, List.setIfInBounds_toArray, List.set_cons_zero, List.set_cons_succ]
      refine held_take (i := 19) (v := ?_) rfl (by kernel_rfl) (by kernel_rfl) (by kernel_rfl) (fun _ _ _ h => h) (by rfl) (by assumption) (fun w hSw => ?_) ?_
      rotate_left
      · (try dsimp only at hSw)
        go_simp
        try with_reducible rfl
      try simp only [Act.put, List.setIfInBounds_toArray, List.set_cons_zero, List.set_cons_succ]
      refine wpAnyH_ready (rs := [20]) (by kernel_rfl) (by simp) ?_
      refine held_cons (i := 20) rfl (by rfl) (fun K hK => ?_) AllReadyH.nil
      go_simp
      have hba := (Below.refl w3.heap.size w3).alloc (Nat.le_refl _) (.cells #[.string (k ++ ⟨#[32]⟩ ++ nr)] 9)
      have hrow9 : Row (w3.alloc (.cells #[.string (k ++ ⟨#[32]⟩ ++ nr)] 9)) (some ⟨w3.heap.size, 0, none⟩) (flat tC [k ++ ⟨#[32]⟩ ++ nr]) := Row.new w3 9 #[.string (k ++ ⟨#[32]⟩ ++ nr)]
      replace hown := hown.below hba
      replace hbx := hbx.trans (hba.mono hbx.size)
      clear hba hSS hHeld
      generalize w3.alloc (.cells #[.string (k ++ ⟨#[32]⟩ ++ nr)] 9) = w4 at *
      try dsimp only
      refine hK.out _ _ (HCELL.out _ hbx) (fun hHeld => ?_)
      clear hK K
      try simp only [Act.put, List.setIfInBounds_toArray, List.set_cons_zero, List.set_cons_succ]
      refine wpAnyH_ready (rs := [21]) (by kernel_rfl) (by simp) ?_
      refine held_cons (i := 21) rfl (by rfl) (fun K hK => ?_) AllReadyH.nil
      refine wpO_append_list _ _ 44 rfl w.heap.size 9 i1 _ 1 16 Tryd.underlying44 hi1 hJ0 hJ1 hJ2 rfl (by decide) tC tC_len tC_one (.slice A' P.length c') P [k ++ ⟨#[32]⟩ ++ nr] (by rfl) hown (some ⟨w3.heap.size, 0, none⟩) 1 (by rfl) hrow9 (by simp only [List.length_singleton]; unfold maxLen; omega) (by simp only [List.length_singleton]; omega) hbx.size ?_
      intro A9 c9 w9 hown9 hx9
      have hb9 := below_ext hbx (Nat.le_refl _) hx9 (fun b e => (hown.lt b e).1)
      try dsimp only
      refine hK.out _ _ (HCELL.out _ hb9) (fun hHeld => ?_)
      clear hK K
      try simp only [Act.put, List.setIfInBounds_toArray, List.set_cons_zero, List.set_cons_succ]
      refine held_take (i := 22) (v := ?_) rfl (by kernel_rfl) (by kernel_rfl) (by kernel_rfl) (fun _ _ _ h => h) (by rfl) (by assumption) (fun w hSw => ?_) ?_
      rotate_left
      · (try dsimp only at hSw)
        go_simp
        try with_reducible rfl
      try simp only [Act.put, List.setIfInBounds_toArray, List.set_cons_zero, List.set_cons_succ]
      refine wpAnyH_done (by kernel_rfl) ?_ _
      go_wp2_with fail
      go_roundw
      case rel => exact ⟨j + 1, A9, c9, by go_num, by omega, by rw [HSN.out, HLN.out], by rw [HSN.out]; exact hown9, hb9⟩
      case measure => simp [RowKit.intOf]; omega
    · have hje : j = L.length := by omega
      have hj1 : ¬ (j : Int) < (L.length : Int) := by omega
      have hjd : decide ((j : Int) < (L.length : Int)) = false := decide_eq_false hj1
      rw [hje, List.take_length] at hown ⊢
      generalize rowsC L = P at *
      go_wp2_with fail
      exact HR.out _ _ _ hown hbx
end
end Go.Proofs.YtjknchhclneneaaDoor
