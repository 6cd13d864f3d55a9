/- vector.list: counts as a vector. -/
import Derived.Maps.OwnOps
import Derived.Maps.OwnSet
import Derived.StringKeys
import Derived.Test.YtgjiedjfplbipaaVecSort
import Derived.Test.YtgjiedjfplbipaaPairTake
namespace Go.Proofs.Ytgjiedjfplbipaa
open Go.RowKit Go.Lib Go.Maps Go.Sort
section
theorem info_en : (Try.prog.info? 82).map (fun i => (i.zero, i.size, i.bytes)) = some (some (.agg #[.string ⟨#[]⟩, .int .u64 0]), 2, 24) := by kernel_rfl
theorem enC_one (x : En) : ∀ u ∈ enC x, u.oneCell' = true := by
  intro u hu
  simp only [enC, List.mem_cons, List.not_mem_nil, or_false] at hu
  rcases hu with rfl | rfl <;> rfl
theorem str_keyed : Keyed Try.prog 9 := string_keyed Try.underlying9
theorem zero_u64 (w : World) : (zeroValue 65).run Try.prog w = .ok (.int .u64 0) w := by kernel_rfl
theorem key_str {k : ByteArray} (h : k.size ≤ 1000000) : keyOf Try.prog 9 (.string k) = some (.string k.data.toList) := WideMaps.keyOf_string_mk Try.underlying9 (by unfold maxLen; omega)
theorem lit_eq {a b : Int} (h : (DataW.lit (.int .u64 a) : DataW Unit) = .lit (.int .u64 b)) : a = b := by injection h with h; injection h
theorem mapD_size (L : List En) : Maps.size (mapD L) = L.length := by simp [mapD, Maps.size]
theorem cnt_at : ∀ {L : List En}, Srt kE L → ∀ {j : Nat}, j < L.length → cntR (L.getD j (emp, 0)).1 L = (L.getD j (emp, 0)).2
  | [], _, _, h => absurd h (by simp)
  | x :: l, h, 0, _ => by simp [cntR]
  | x :: l, h, j + 1, hj => by
    have hj' : j < l.length := by simpa using hj
    have ih := cnt_at h.2 hj'
    have e : (x :: l).getD (j + 1) (emp, 0) = l.getD j (emp, 0) := by simp
    rw [e, cntR, if_neg, ih]
    intro e2
    have := h.1 (l.getD j (emp, 0)) (by rw [getD_at l j _ hj']; exact List.getElem_mem hj')
    rw [show kE x = kE (l.getD j (emp, 0)) from e2, ltB_irr] at this
    cases this
/-- Counts as a vector. -/
def listR (L : List En) : List En × Int := if 64 < L.length then ([], 3) else (L, 0)
set_option maxHeartbeats 4000000 in
set_option maxRecDepth 100000 in
theorem vector_list (L : List En) (hL : Srt kE L) (hsm : ∀ x ∈ L, x.1.size ≤ 100) (hlen : L.length ≤ 1000000) (b n : Nat) (w : World) (hown : MapO w b n L) {R : Ending → World → Prop}
    (hR : ∀ A c w', Row w' A (flat enC (listR L).1) → Below w.heap.size w w' → R (.returned (.tuple #[.slice A (listR L).1.length c, .int .i64 (listR L).2])) w') :
    Calls Try.prog 89 #[.map (some b)] w R := by
  obtain ⟨i0, hi0, hI0, hI1, hI2⟩ := info_parts info_en
  have HR := Lib.hid hR
  have hbl : b < w.heap.size := World.ownsMap.lt hown
  clear hR
  by_cases hbig : 64 < L.length
  · have e1 : (64 : Int) < (L.length : Int) := by omega
    have e2 : decide ((64 : Int) < (L.length : Int)) = true := decide_eq_true e1
    have hl : listR L = ([], 3) := if_pos hbig
    rw [hl] at HR
    clear hl hbig
    go_enter Try.func89, Try.ntmps89
    go_wp2_with (first
      | (at_len; refine wpList_len_own _ rfl _ 123 rfl 9 65 Try.underlying123 _ b n _ rfl hown ?_; rw [mapD_size]))
    exact HR.out none 0 _ (Row.nil _ _) (Below.refl _ _)
  have e1 : ¬ (64 : Int) < (L.length : Int) := by omega
  have e2 : decide ((64 : Int) < (L.length : Int)) = false := decide_eq_false e1
  have hl : listR L = (L, 0) := if_neg hbig
  rw [hl] at HR
  clear hl
  go_enter Try.func89, Try.ntmps89
  go_upto_region 3 with (first
    | (at_len; refine wpList_len_own _ rfl _ 123 rfl 9 65 Try.underlying123 _ b n _ rfl hown ?_; rw [mapD_size]))
  go_wp2_with (first
    | (go_at_call 115; refine (keys_call _ _).mono ?_; rintro e w' ⟨rfl, rfl⟩)
    | (go_at_call 114; refine (sorted_call L hL hlen b n w.heap.size _ (World.ownsMap.alloc hown _) (by simp) ((Blk.new _ _ _).cell 0)).mono ?_; rintro e w1 ⟨A, c, rfl, hrow, hb1⟩))
  replace hb1 : Below w.heap.size w w1 := ((Below.refl _ w).alloc (Nat.le_refl _) _).trans (hb1.mono (by simp))
  have hmap : MapO w1 b n L := ownsMap_below hown hb1 hbl
  have hb1l : b < w1.heap.size := Nat.lt_of_lt_of_le hbl hb1.size
  have hl0 : (0 : Int) ≤ (L.length : Int) := Int.natCast_nonneg _
  clear e1 e2
  go_loopw [4, 14] (fun s4 i wx => ∃ (j : Nat) (A' : Option Addr) (c' : Nat), i = .int .i64 (j : Int) ∧ j ≤ L.length ∧ s4 = .slice A' (L.take j).length c' ∧ Own wx w1.heap.size 82 2 enC (.slice A' (L.take j).length c') (L.take j) ∧ Below w1.heap.size w1 wx) (fun _ i _ => L.length - (RowKit.intOf i).toNat)
  case atStart => exact ⟨0, none, 0, rfl, Nat.zero_le _, by simp, by simpa using Own.nil _ _ _ _, Below.refl _ _⟩
  case round =>
    obtain ⟨j, A', c', rfl, hj, rfl, hout, hbx⟩ := hrel
    have hj0 : (0 : Int) ≤ (j : Int) := Int.natCast_nonneg _
    by_cases hlt : j < L.length
    · have hj1 : (j : Int) < (L.length : Int) := by omega
      have hjd : decide ((j : Int) < (L.length : Int)) = true := decide_eq_true hj1
      obtain ⟨bb, o, hA, hbb, hc⟩ := (hrow.below hbx (Nat.le_refl _)).at_ kC_len (by decide) j hlt
      have d0 := hc 0 _ rfl
      rw [← getD_at L j (emp, 0) hlt, Nat.mul_one, Nat.add_zero] at d0
      have hcnt := cnt_at hL hlt
      have hxs : (L.getD j (emp, 0)).1.size ≤ 100 := hsm _ (by rw [getD_at L j _ hlt]; exact List.getElem_mem hlt)
      have hsn := take_snoc L j (emp, 0) hlt
      have hPl : (L.take j).length = j := by simp; omega
      obtain ⟨x, hx⟩ : ∃ x, L.getD j (emp, 0) = x := ⟨_, rfl⟩
      rw [hx] at d0 hcnt hxs hsn
      have hat0 := mapD_at x.1 L
      rw [hcnt] at hat0
      have hkey := key_str (show x.1.size ≤ 1000000 by omega)
      have hmx : MapO wr b n L := ownsMap_below hmap hbx hb1l
      obtain ⟨P, hP⟩ : ∃ P, L.take j = P := ⟨_, rfl⟩
      rw [hP] at hout hsn hPl ⊢
      have HAT := Lib.hid hat0
      have HSN := Lib.hid hsn
      have HPL := Lib.hid hPl
      subst hA
      clear hc hx hcnt hat0 hsn hP
      have hPm : P.length ≤ 64 := by omega
      clear hPl
      have hlen2 : (P ++ [(x.1, x.2)]).length = P.length + 1 := by simp
      have HLEN := Lib.hid hlen2
      clear hlen2
      go_wp2_with (first
        | (at_lookup; refine wpList_lookup_own_int _ rfl _ _ 123 rfl 9 65 .u64 str_keyed Try.underlying123 Try.underlying65 (zero_u64 _) b n _ rfl hmx _ _ rfl hkey ?_; intro cc hat hwc; have hcc := lit_eq (hat.symm.trans HAT.out); subst hcc; clear hat hwc)
        | (at_builtin; refine wpList_append_one rfl _ _ _ (by rfl) w1.heap.size 82 i0 _ 2 24 Try.underlying61 hi0 hI0 hI1 hI2 rfl (by decide) enC (.slice A' P.length c') P (by rfl) (hout.alloc _) (x.1, x.2) ⟨wr.heap.size, 0, none⟩ 1 (by rfl) rfl ((Blk.new _ _ _).news rfl) (enC_one _) (by unfold maxLen; omega) (by omega) (Nat.le_trans hbx.size (by simp)) ?_
           intro g9 c9 w9 hown9 hx9 hst9))
      have hb9 := below_ext (hbx.alloc hbx.size (.cells #[.string x.1, .int .u64 x.2] 82)) (Nat.le_refl _) hx9 (fun b e => (hout.lt b e).1)
      go_roundw
      case rel => exact ⟨j + 1, some ⟨g9, 0, none⟩, c9, by go_num, by omega, by rw [HSN.out, HLEN.out], by rw [HSN.out, HLEN.out]; exact hown9, hb9⟩
      case measure => simp [RowKit.intOf]; omega
    · have hje : j = L.length := by omega
      have hj1 : ¬ (j : Int) < (L.length : Int) := by omega
      have hjd : decide ((j : Int) < (L.length : Int)) = false := decide_eq_false hj1
      rw [hje, List.take_length] at hout ⊢
      clear hje
      go_wp2_with fail
      exact HR.out _ _ _ (Row.of_own hout) (hb1.trans (hbx.mono hb1.size))
end
end Go.Proofs.Ytgjiedjfplbipaa
