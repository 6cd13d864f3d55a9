/- The nine items of spencelaw21.awake, plainly. -/
import Derived.Test.YtlkjonlipnmbnaaTreeMake
import Derived.Deep.OwnRows
namespace Go.Proofs.Ytlkjonlipnmbnaa
open Go.RowKit Go.Lib
section
def keyR (i : Nat) : ByteArray := ⟨(UInt8.ofNat i :: List.replicate 31 0).toArray⟩
def nineL (j : Nat) : List It := (List.range j).map (fun i => (keyR i, keyR i))
theorem nine_check : checkT (nineL 9) = 0 := by kernel_rfl
theorem nine_below : belowR ⟨#[]⟩ (nineL 9) = nineL 9 := by kernel_rfl
theorem nine_ok : (pgR ⟨#[]⟩ (nineL 9)).2 = true := by kernel_rfl
theorem nine_leaf : (pgR ⟨#[]⟩ (nineL 9)).1.leaf = false := by kernel_rfl
theorem nine_sl : (pgR ⟨#[]⟩ (nineL 9)).1.sl.length = 9 := by kernel_rfl
set_option maxRecDepth 100000 in
theorem nine_at : (atR ⟨#[]⟩ (nineL 9)).2 = 0 ∧ (atR ⟨#[]⟩ (nineL 9)).1.leaf = false ∧ (atR ⟨#[]⟩ (nineL 9)).1.sl.length = 9 := by
  rw [at_pg nine_check, nine_below]
  exact ⟨by dsimp only; rw [nine_ok]; rfl, nine_leaf, nine_sl⟩
theorem nine_snoc (j : Nat) : nineL (j + 1) = nineL j ++ [(keyR j, keyR j)] := by unfold nineL; rw [List.range_succ, List.map_append]; rfl
theorem nine_len (j : Nat) : (nineL j).length = j := by unfold nineL; simp
end
end Go.Proofs.Ytlkjonlipnmbnaa
/- spencelaw21.awake. -/
namespace Go.Proofs.Ytlkjonlipnmbnaa
open Go.RowKit Go.Lib
section
/-- The bytes of the key, as they stand. -/
def cellsK (j : Nat) : Array Value := (.int .u8 (j : Int) :: List.replicate 31 (.int .u8 0)).toArray
theorem cellsK_zero : madeCells #[.int .u8 0] 32 = cellsK 0 := by kernel_rfl
theorem cellsK_set (x j : Nat) : (cellsK x).setIfInBounds 0 (.int .u8 (j : Int)) = cellsK j := by unfold cellsK; simp
theorem keyR_conv (W : World) (g j : Nat) (h : Blk W g 5 (cellsK j)) : (convert 34 9 (.slice (some ⟨g, 0, none⟩) 32 32)).run Try.prog W = .ok (.string (keyR j)) W := by
  rw [run_convert_bytes_arg W 34 5 Try.underlying34 Try.underlying5 g 0 32 32 ((j : Int) :: List.replicate 31 0) rfl (fun i hi => ?_) 9 Try.underlying9]
  · simp [strOfNums, keyR]
  · rw [Nat.zero_add, h.cell i]
    unfold cellsK
    cases i with
    | zero => simp
    | succ i =>
      have hi31 : i < 31 := by omega
      rw [List.getElem?_toArray, List.getElem?_cons_succ, List.getElem?_replicate, if_pos hi31, List.getD_eq_getElem?_getD, List.getElem?_cons_succ, List.getElem?_replicate, if_pos hi31]; rfl
set_option maxHeartbeats 2000000 in
set_option maxRecDepth 100000 in
theorem law21_awake (w : World) {R : Ending → World → Prop} (hR : ∀ w', Below w.heap.size w w' → R (.returned (.bool true)) w') :
    Calls Try.prog 7 #[] w R := by
  obtain ⟨i0, hi0, hI0, hI1, hI2⟩ := info_parts infoT_it
  have HR := Lib.hid hR
  clear hR
  go_enter Try.func7, Try.ntmps7
  have hmk := run_make_row' (P := Try.prog) 34 5 (.int .u8 0) 1 Try.underlying34 (by kernel_rfl) rfl .i64 .i64 32 (by decide) (by decide)
  rw [show ((32 : Nat) : Int) = 32 from rfl] at hmk
  go_upto_region 3 with fail
  have hB0 : Blk (w.alloc (.cells (madeCells #[.int .u8 0] 32) 5)) w.heap.size 5 (cellsK 0) := by rw [← cellsK_zero]; exact Blk.new _ _ _
  have hx0 := (Below.refl w.heap.size w).alloc (Nat.le_refl _) (.cells (madeCells #[.int .u8 0] 32) 5)
  have hge : w.heap.size ≤ w.heap.size := Nat.le_refl _
  generalize w.alloc (.cells (madeCells #[.int .u8 0] 32) 5) = w1 at *
  obtain ⟨g, hg⟩ : ∃ g, w.heap.size = g := ⟨_, rfl⟩
  rw [hg] at hB0 ⊢
  have HG := Lib.hid hg
  clear hg hmk
  go_wp2_with fail
  go_loopw [1, 3] (fun s1 i wx => ∃ (j x : Nat) (A : Option Addr) (c : Nat), i = .int .i64 (j : Int) ∧ j ≤ 9 ∧ s1 = .slice A j c ∧ Own wx w.heap.size 38 2 itC (.slice A j c) (nineL j) ∧ Blk wx g 5 (cellsK x) ∧ Below w.heap.size w wx) (fun _ i _ => 9 - (RowKit.intOf i).toNat)
  case atStart => exact ⟨0, 0, none, 0, rfl, by decide, rfl, Own.nil _ _ _ _, hB0, hx0⟩
  case round =>
    clear hB0 hx0
    obtain ⟨j, x, A, c, rfl, hj, rfl, hown, hB, hx⟩ := hrel
    have hj0 : (0 : Int) ≤ (j : Int) := Int.natCast_nonneg _
    by_cases hlt : j < 9
    · have hj1 : (j : Int) < 9 := by omega
      have hjd : decide ((j : Int) < 9) = true := decide_eq_true hj1
      have hw3 : IntKind.u8.wrap (j : Int) = (j : Int) := by rw [IntKind.wrap_u8]; omega
      have hw4 : (j : Int) % 256 = (j : Int) := by omega
      have c0 : wr.cell? ⟨g, 0, none⟩ = some (.int .u8 (x : Int)) := (hB.cell 0).trans rfl
      have f0 := hB.frozen 0
      go_upto_region 7 with fail
      clear hw3 hw4
      have hB2 : Blk (wr.setCell ⟨g, 0, none⟩ (.int .u8 (j : Int))) g 5 (cellsK j) := (cellsK_set x j) ▸ hB.set 0 (.int .u8 (j : Int))
      have hset := Ext.self wr g 0 (.int .u8 (j : Int))
      have hown2 := hown.ext hset (fun b e e2 => hown.ne hB (by decide) (by rw [e, e2]))
      have hx2 := below_self hx hge hset (Nat.le_of_eq HG.out)
      clear c0 f0 hB hown hx hset
      generalize wr.setCell ⟨g, 0, none⟩ (.int .u8 (j : Int)) = w2 at *
      have hcv := keyR_conv w2 g j hB2
      have hsn := nine_snoc j
      have HSN := Lib.hid hsn
      clear hsn
      go_wp2_with (first
        | (at_builtin; refine wpList_append_one rfl _ _ _ (by rfl) w.heap.size 38 i0 _ 2 32 Try.underlying22 hi0 hI0 hI1 hI2 rfl (by decide) itC (.slice A j c) (nineL j) (by rfl) (hown2.alloc _) (keyR j, keyR j) ⟨w2.heap.size, 0, none⟩ 1 (by rfl) rfl ((Blk.new _ _ _).news rfl) (itT_one _) (by rw [nine_len]; unfold maxLen; omega) (by rw [nine_len]; omega) (Nat.le_trans hx2.size (by simp)) ?_
           intro g9 c9 w9 hown9 hx9 hst9))
      rw [nine_len] at hown9
      have hb9 := below_ext (hx2.alloc hx2.size (.cells #[.string (keyR j), .string (keyR j)] 38)) (Nat.le_refl _) hx9 (fun b e => (hown2.lt b e).1)
      have hB9 := (hB2.alloc (.cells #[.string (keyR j), .string (keyR j)] 38)).ext hx9 ((hown2.alloc (.cells #[.string (keyR j), .string (keyR j)] 38)).ne (hB2.alloc (.cells #[.string (keyR j), .string (keyR j)] 38)) (by decide))
      go_roundw
      case rel => exact ⟨j + 1, j, some ⟨g9, 0, none⟩, c9, by go_num, by omega, by rw [nine_len], by rw [HSN.out]; exact hown9, hB9, hb9⟩
      case measure => simp [RowKit.intOf]; omega
    · obtain rfl : j = 9 := by omega
      have hj1 : ¬ ((9 : Nat) : Int) < 9 := by omega
      have hlc : 9 ≤ c := by
        rcases hown.2 with ⟨_, h0⟩ | ⟨g', cap, cur, hv, _, _, hn, _⟩
        · rw [nine_len] at h0; omega
        · injection hv with _ _ hc
          rw [nine_len] at hn
          omega
      have hat := fun R => tree_At ⟨#[]⟩ (nineL 9) A c wr (by decide) (Row.of_own hown) (by rw [nine_len]; decide) (by rw [nine_len]; exact hlc) (R := R)
      obtain ⟨n1, n2, n3⟩ := nine_at
      rw [nine_len] at hat
      generalize atR ⟨#[]⟩ (nineL 9) = r at *
      obtain ⟨p, e⟩ := r
      dsimp only at n1 n2 n3
      subst n1
      clear hB hown
      go_wp2_with fail
      refine hat _ ?_
      intro B1 B2 d1 d2 w3 hr1 hr2 hs1 hs2 hb3
      dsimp only at hr1 hr2 hs1 hs2 ⊢
      rw [n2, n3]
      replace hx := hx.trans (hb3.mono hx.size)
      clear hat hr1 hr2 hs1 hs2 hb3
      go_wp2_with fail
      first | exact HR.out _ (hx.alloc hx.size _) | (go_ret; exact HR.out _ (hx.alloc hx.size _))
end
end Go.Proofs.Ytlkjonlipnmbnaa
