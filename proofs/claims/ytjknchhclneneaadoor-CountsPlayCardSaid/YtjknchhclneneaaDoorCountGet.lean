/- counts: Get, Len, Rows, the walks. -/
import Derived.Test.YtjknchhclneneaaDoorCountRows
namespace Go.Proofs.YtjknchhclneneaaDoor
open Go.RowKit Go.Lib
section
theorem counts_Get (w : World) (g : Nat) (made : Bool) (mb : Option Nat) (E : List Cw) (k : ByteArray) (h : CtO w g made mb E) (hk : k.size ≤ 1000000) :
    Calls Tryd.prog 7 #[.pointer (some ⟨g, 0, none⟩), .string k] w fun e w' => e = .returned (.int .i64 (getC k (toC E))) ∧ w = w' := by
  have hlk := h.look hk
  have c0 := h.cell0
  have hg := get_find k E
  cases hf : findE k E with
  | none =>
    rw [hf] at hlk hg
    unfold ptrV at hlk
    dsimp only at hlk hg
    rw [hg]
    clear hf hg
    go_enter Tryd.func7, Tryd.ntmps7
    go_wp2_with fail
    first | exact ⟨rfl, rfl⟩ | (go_ret; exact ⟨rfl, rfl⟩)
  | some x =>
    have hb := h.cells x (find_mem hf).1
    rw [hf] at hlk hg
    unfold ptrV at hlk
    dsimp only at hlk hg
    rw [hg]
    obtain ⟨xk, xb, xn⟩ := x
    dsimp only at hlk hb
    have d0 := hb.cell 0
    dsimp at d0
    clear hf hg hb
    go_enter Tryd.func7, Tryd.ntmps7
    go_wp2_with fail
    refine (int64_Load ⟨xb, 0, none⟩ xn w d0).mono ?_
    rintro e w' ⟨rfl, rfl⟩
    go_wp2_with fail
    first | exact ⟨rfl, rfl⟩ | (go_ret; exact ⟨rfl, rfl⟩)
theorem counts_Len (w : World) (g : Nat) (made : Bool) (mb : Option Nat) (E : List Cw) (h : CtO w g made mb E) :
    Calls Tryd.prog 8 #[.pointer (some ⟨g, 0, none⟩)] w fun e w' => e = .returned (.int .i64 (E.length : Int)) ∧ w = w' := by
  have hln := fun ty => h.len ty
  have c0 := h.cell0
  go_enter Tryd.func8, Tryd.ntmps8
  go_wp2_with fail
  first | exact ⟨rfl, rfl⟩ | (go_ret; exact ⟨rfl, rfl⟩)
theorem nDigits_le : ∀ (k u : Nat), u < 10 ^ (k + 1) → nDigits u ≤ k + 1
  | 0, u, h => by rw [nDigits_small (by simpa using h)]; exact Nat.le_refl _
  | k + 1, u, h => by
    by_cases c : u < 10
    · rw [nDigits_small c]; omega
    · rw [nDigits_big c]
      have := nDigits_le k (u / 10) (Nat.div_lt_of_lt_mul (by rw [Nat.pow_succ, Nat.mul_comm] at h; exact h))
      omega
theorem numR_size {n : Int} (h0 : -9223372036854775808 ≤ n) (h1 : n ≤ 9223372036854775807) : (numR n).size ≤ 30 := by
  have hs : (numR n).size = (itoa n).length := by unfold numR; exact size_lit _
  rw [hs]
  unfold itoa
  split
  · rw [List.length_cons, decDigits_length]
    have := nDigits_le 20 n.natAbs (by have : n.natAbs ≤ 9223372036854775808 := by omega
                                       exact Nat.lt_of_le_of_lt this (by decide))
    omega
  · rw [decDigits_length]
    have := nDigits_le 20 n.toNat (by have : n.toNat ≤ 9223372036854775808 := by omega
                                      exact Nat.lt_of_le_of_lt this (by decide))
    omega
def RngC (l : List Ct) : Prop := ∀ x ∈ l, -9223372036854775808 ≤ x.2 ∧ x.2 ≤ 9223372036854775807
theorem wrap64_rng (n : Int) : -9223372036854775808 ≤ wrap64 n ∧ wrap64 n ≤ 9223372036854775807 := by unfold wrap64; omega
theorem addC_rng {L : List Ct} {k : ByteArray} {n : Int} (h : RngC L) (hn : -9223372036854775808 ≤ n ∧ n ≤ 9223372036854775807) : RngC (addC L k n).1 := by
  unfold addC
  split
  · exact h
  · split
    · intro x hx
      obtain ⟨z, hz, rfl⟩ := List.mem_map.1 hx
      split
      · exact wrap64_rng _
      · exact h z hz
    · split
      · exact h
      · intro x hx
        rcases insK_mem hx with rfl | hx
        · exact hn
        · exact h x hx
theorem getC_at {L : List Ct} (h : Srt kCt L) {x : Ct} (hx : x ∈ L) : getC x.1 L = x.2 := by
  unfold getC
  cases hf : L.find? (fun y => decide (y.1 = x.1)) with
  | none => exact absurd (List.find?_eq_none.1 hf x hx) (by simp)
  | some y =>
    have h1 := List.mem_of_find?_eq_some hf
    have h2 : y.1 = x.1 := by simpa using List.find?_some hf
    rw [srt_inj h y h1 x hx h2]
    rfl
def tC (s : ByteArray) : List Value := [.string s]
theorem tC_len (s : ByteArray) : (tC s).length = 1 := rfl
theorem tC_one (s : ByteArray) : ∀ u ∈ tC s, u.oneCell' = true := fun u hu => by
  rw [tC, List.mem_singleton] at hu
  subst hu
  rfl
theorem infoC_str : (Tryd.prog.info? 9).map (fun i => (i.zero, i.size, i.bytes)) = some (some (.string ⟨#[]⟩), 1, 16) := by kernel_rfl
def rowsC (l : List Ct) : List ByteArray := l.map rowC
set_option maxHeartbeats 2000000 in
set_option maxRecDepth 100000 in
theorem counts_Rows (w : World) (g : Nat) (made : Bool) (mb : Option Nat) (E : List Cw) (h : CtO w g made mb E) (hlen : E.length ≤ 1000) (hr : RngC (toC E)) (hp : ∀ w', RowKit.Below w.heap.size w w' → Pow10 w') {R : Ending → World → Prop}
    (hR : ∀ A c w', Own w' w.heap.size 9 1 tC (.slice A (rowsC (toC E)).length c) (rowsC (toC E)) → RowKit.Below w.heap.size w w' → R (.returned (.slice A (rowsC (toC E)).length c)) w') :
    Calls Tryd.prog 9 #[.pointer (some ⟨g, 0, none⟩)] w R := by
  obtain ⟨i1, hi1, hJ0, hJ1, hJ2⟩ := info_parts infoC_str
  have HR := Lib.hid hR
  have HP := Lib.hid hp
  have HRG := Lib.hid hr
  clear hR hp hr
  have c0 := h.cell0
  have hl0 : (0 : Int) ≤ (E.length : Int) := Int.natCast_nonneg _
  go_enter Tryd.func9, Tryd.ntmps9
  go_wp2_with (first
    | (go_at_call 20; refine (keysP_call _ _).mono ?_; rintro e w' ⟨rfl, rfl⟩)
    | (go_at_call 19; refine (sortedP_call h (by omega) w.heap.size _ (h.below ((Below.refl _ _).alloc (Nat.le_refl _) _)) (by simp) ((Blk.new _ _ _).cell 0)).mono ?_; rintro e w1 ⟨A, c, rfl, hrow, hb1⟩))
  replace hb1 : RowKit.Below w.heap.size w w1 := ((Below.refl _ w).alloc (Nat.le_refl _) _).trans (hb1.mono (by simp))
  clear c0
  have hll : (toL E).length = E.length := List.length_map _
  have hlc : (toC E).length = E.length := List.length_map _
  go_loopw [3, 15] (fun s3 i wx => ∃ (j : Nat) (A' : Option Addr) (c' : Nat), i = .int .i64 (j : Int) ∧ j ≤ E.length ∧ s3 = .slice A' (rowsC ((toC E).take j)).length c' ∧ Own wx w1.heap.size 9 1 tC (.slice A' (rowsC ((toC E).take j)).length c') (rowsC ((toC E).take j)) ∧ RowKit.Below w1.heap.size w1 wx) (fun _ i _ => E.length - (RowKit.intOf i).toNat)
  case atStart => exact ⟨0, none, 0, rfl, Nat.zero_le _, rfl, Own.nil _ _ _ _, Below.refl _ _⟩
  case round =>
    obtain ⟨j, A', c', rfl, hj, rfl, hown, hbx1⟩ := hrel
    have hbx := hb1.trans (hbx1.mono hb1.size)
    have hj0 : (0 : Int) ≤ (j : Int) := Int.natCast_nonneg _
    by_cases hlt : j < E.length
    · have hj1 : (j : Int) < (E.length : Int) := by omega
      have hjd : decide ((j : Int) < (E.length : Int)) = true := decide_eq_true hj1
      obtain ⟨bb, o, hA, _, hc⟩ := (hrow.below hbx1 (Nat.le_refl _)).at_ kC_len (by decide) j (by rw [hll]; exact hlt)
      have d0 := hc 0 _ rfl
      rw [Nat.mul_one, Nat.add_zero] at d0
      have hjc : j < (toC E).length := by rw [hlc]; exact hlt
      have hnm : ((toL E)[j]'(by rw [hll]; exact hlt)).1 = ((toC E).getD j (emp, 0)).1 := by rw [getD_at _ j _ hjc]; simp [toL, toC]
      rw [hnm] at d0
      have hmem : (toC E).getD j (emp, 0) ∈ toC E := by rw [getD_at _ j _ hjc]; exact List.getElem_mem hjc
      have hgc := getC_at (toC_srt h.srt) hmem
      have hrg := HRG.out _ hmem
      have hsm : ((toC E).getD j (emp, 0)).1.size ≤ 32 := by
        obtain ⟨z, hz, he⟩ := List.mem_map.1 hmem
        rw [← he]; exact h.small z hz
      have hsn : rowsC ((toC E).take (j + 1)) = rowsC ((toC E).take j) ++ [rowC ((toC E).getD j (emp, 0))] := by
        unfold rowsC; rw [take_snoc (toC E) j (emp, 0) hjc, List.map_append]; rfl
      have hPl : (rowsC ((toC E).take j)).length = j := by unfold rowsC; rw [List.length_map, List.length_take]; omega
      obtain ⟨⟨k, n⟩, hkn⟩ : ∃ x, (toC E).getD j (emp, 0) = x := ⟨_, rfl⟩
      rw [hkn] at d0 hgc hrg hsm hsn
      dsimp only at d0 hgc hrg hsm
      have hz := numR_size hrg.1 hrg.2
      have hro : rowC (k, n) = k ++ ⟨#[32]⟩ ++ numR n := rfl
      rw [hro] at hsn
      obtain ⟨P, hP⟩ : ∃ P, rowsC ((toC E).take j) = P := ⟨_, rfl⟩
      rw [hP] at hown hsn hPl ⊢
      have HSN := Lib.hid hsn
      have hlen2 : (P ++ [k ++ ⟨#[32]⟩ ++ numR n]).length = P.length + 1 := by simp
      have HLN := Lib.hid hlen2
      have hPm : P.length ≤ 1000 := by omega
      have hst := fun W hW => counts_Get W g made mb E k hW (by omega)
      rw [hgc] at hst
      have hcw := h.below hbx
      have hpw := fun W hW => HP.out W hW
      have hs1 : k.size + (⟨#[32]⟩ : ByteArray).size ≤ 9223372036854775807 := by have : (⟨#[32]⟩ : ByteArray).size = 1 := rfl; omega
      have hs1' : ¬ 9223372036854775807 < k.size + (⟨#[32]⟩ : ByteArray).size := by omega
      have hs3 : k.size + 1 ≤ 9223372036854775807 := by omega
      have hs3' : ¬ 9223372036854775807 < k.size + 1 := by omega
      have hks : (k ++ (⟨#[32]⟩ : ByteArray)).size = k.size + 1 := by rw [ByteArray.size_append]; rfl
      have hs2 : (k ++ (⟨#[32]⟩ : ByteArray)).size + (numR n).size ≤ 9223372036854775807 := by omega
      have hs2' : ¬ 9223372036854775807 < (k ++ (⟨#[32]⟩ : ByteArray)).size + (numR n).size := by omega
      subst hA
      clear hc hnm hmem hgc hkn hro hsn hP hlen2 hjc hks hPl
      have hfm := fun W hW R => format_call n hrg.1 hrg.2 W hW (R := R)
      generalize numR n = nr at *
      go_wp2_with fail
      refine (hst _ hcw).mono ?_
      rintro e w' ⟨rfl, rfl⟩
      go_wp2_with fail
      refine hfm _ (hpw _ hbx) _ ?_
      intro w2 hb2
      have hbx3 := hbx1.trans (hb2.mono hbx1.size)
      replace hown := hown.below hb2
      clear hfm hst hcw d0 hbx hbx1
      have hwz := hbx3.size
      go_wp2_with (first
        | (at_builtin; refine wpList_append_one rfl _ _ _ (by rfl) w1.heap.size 9 i1 _ 1 16 Tryd.underlying44 hi1 hJ0 hJ1 hJ2 rfl (by decide) tC (.slice A' P.length c') P (by rfl) (hown.alloc _) (k ++ ⟨#[32]⟩ ++ nr) ⟨w2.heap.size, 0, none⟩ 1 (by rfl) rfl ((Blk.new _ _ _).news rfl) (tC_one _) (by unfold maxLen; omega) (by omega) (Nat.le_trans hwz (by simp)) ?_
           intro Az cz wz hnz hxz hstz))
      have hb9 := below_ext (hbx3.alloc hwz (.cells #[.string (k ++ ⟨#[32]⟩ ++ nr)] 9)) (Nat.le_refl _) hxz (fun b e => (hown.lt b e).1)
      go_roundw
      case rel => exact ⟨j + 1, some ⟨Az, 0, none⟩, cz, by go_num, by omega, by rw [HSN.out, HLN.out], by rw [HSN.out, HLN.out]; exact hnz, hb9⟩
      case measure => simp [RowKit.intOf]; omega
    · have hje : j = E.length := by omega
      have hj1 : ¬ (j : Int) < (E.length : Int) := by omega
      have hjd : decide ((j : Int) < (E.length : Int)) = false := decide_eq_false hj1
      rw [hje, ← hlc, List.take_length] at hown ⊢
      generalize rowsC (toC E) = P at *
      go_wp2_with fail
      exact HR.out _ _ _ (hown.mono hb1.size) hbx
end
end Go.Proofs.YtjknchhclneneaaDoor
