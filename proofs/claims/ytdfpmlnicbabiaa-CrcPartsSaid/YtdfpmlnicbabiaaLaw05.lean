/- The walks of the laws of sums. -/
import Derived.Test.YtdfpmlnicbabiaaCrcMore
import Derived.Lib.ConvBytes
namespace Go.Proofs.Ytdfpmlnicbabiaa
open Go.RowKit Go.Lib

theorem sum_digits : crcSum ⟨#[49, 50, 51, 52, 53, 54, 55, 56, 57]⟩ = 3421780262 := by decide +kernel
theorem sum_none : crcSum ⟨#[]⟩ = 0 := by decide +kernel
theorem more_seven : crcMore 7 [] = 7 := by decide +kernel
theorem StrsAt.nil (w : World) : StrsAt w none 0 [] := ⟨rfl, fun i hi => absurd hi (by omega)⟩
attribute [local irreducible] halve halfN crcPut crcFold crcSum crcMore
theorem crcSum_lt (t : ByteArray) : crcSum t < 4294967296 := by rw [← crcSum_more]; exact crcMore_lt _ _

theorem law05_awake (w : World) :
    Calls Try.prog 53 #[] w fun e w' => e = .returned (.bool true) ∧ Below w.heap.size w w' := by
  go_enter Try.func53, Try.ntmps53
  go_wp2_with fail
  refine (crc_New _).mono ?_
  rintro e w1 ⟨rfl, hb1, hs1⟩
  have hs1 : Sums w1 w.heap.size false := hs1
  go_wp2_with fail
  refine crc_Sum _ _ _ _ hs1 (by decide) ?_
  rw [sum_digits]
  intro w2 hs2 hx2
  have hb2 := below_self hb1 (Nat.le_refl _) hx2 (Nat.le_refl _)
  go_wp2_with fail
  refine crc_Sum _ _ _ _ hs2 (by decide) ?_
  rw [sum_none]
  intro w3 hs3 hx3
  have hb3 := below_self hb2 (Nat.le_refl _) hx3 (Nat.le_refl _)
  go_wp2_with fail
  go_ret
  exact ⟨rfl, hb3⟩

theorem law05_makes (s : ByteArray) (more : Bool) (w : World) (hs : s.size ≤ 9223372036854775806) :
    Calls Try.prog 14 #[.string s, .bool more] w fun e w' => e = .returned (.bool true) ∧ Below w.heap.size w w' := by
  have hlt := crcSum_lt s
  obtain ⟨x, hx⟩ : ∃ x, crcSum s = x := ⟨_, rfl⟩
  rw [hx] at hlt
  have HX := Lib.hid hx
  clear hx
  go_enter Try.func14, Try.ntmps14
  go_wp2_with fail
  refine (law05_awake _).mono ?_
  rintro e w0 ⟨rfl, hb0⟩
  by_cases hbig : (200 : Int) < (s.size : Int)
  · go_wp2
    all_goals go_ret
    all_goals exact ⟨rfl, hb0⟩
  · have hbig : (s.size : Int) ≤ 200 := by omega
    go_wp2_with fail
    refine (crc_New _).mono ?_
    obtain ⟨g, hg⟩ : ∃ g, w0.heap.size = g := ⟨_, rfl⟩
    have hgl : w.heap.size ≤ g := by rw [← hg]; exact hb0.size
    rw [hg]
    rintro e w1 ⟨rfl, hb1, hs1⟩
    have hb1 : Below w.heap.size w w1 := hb0.trans (hb1.mono hgl)
    have hs1 : Sums w1 g false := hs1
    clear hg
    go_wp2_with fail
    refine crc_Made _ _ _ hs1 ?_
    cases more
    · go_wp2_with fail
      refine crc_Sum _ _ _ _ hs1 hs ?_
      rw [HX.out]
      intro w2 hs2 hx2
      have hb2 := below_self hb1 (Nat.le_refl _) hx2 hgl
      go_wp2_with fail
      refine crc_Made _ _ _ hs2 ?_
      go_wp2_with fail
      refine crc_More _ _ 7 _ _ _ [] _ hs2 (by decide) (StrsAt.nil _) (fun ad e _ => by cases e) (by decide) (fun s h => by cases h) ?_
      rw [more_seven]
      intro w3 hs3 hx3
      have hb3 := below_self hb2 (Nat.le_refl _) hx3 hgl
      go_wp2_with fail
      refine crc_Sum _ _ _ _ hs3 hs ?_
      rw [HX.out]
      intro w4 hs4 hx4
      have hb4 := below_self hb3 (Nat.le_refl _) hx4 hgl
      go_wp2_with fail
      refine crc_Sum _ _ _ _ hs4 hs ?_
      rw [HX.out]
      intro w5 hs5 hx5
      have hb5 := below_self hb4 (Nat.le_refl _) hx5 hgl
      go_wp2_with fail
      refine crc_Made _ _ _ hs5 ?_
      go_wp2
      all_goals (try go_ret)
      all_goals exact ⟨rfl, hb5⟩
    · go_wp2_with fail
      refine crc_More _ _ 7 _ _ _ [] _ hs1 (by decide) (StrsAt.nil _) (fun ad e _ => by cases e) (by decide) (fun s h => by cases h) ?_
      rw [more_seven]
      intro w2 hs2 hx2
      have hb2 := below_self hb1 (Nat.le_refl _) hx2 hgl
      go_wp2_with fail
      refine crc_Made _ _ _ hs2 ?_
      go_wp2_with fail
      refine crc_More _ _ 7 _ _ _ [] _ hs2 (by decide) (StrsAt.nil _) (fun ad e _ => by cases e) (by decide) (fun s h => by cases h) ?_
      rw [more_seven]
      intro w3 hs3 hx3
      have hb3 := below_self hb2 (Nat.le_refl _) hx3 hgl
      go_wp2_with fail
      refine crc_Sum _ _ _ _ hs3 hs ?_
      rw [HX.out]
      intro w4 hs4 hx4
      have hb4 := below_self hb3 (Nat.le_refl _) hx4 hgl
      go_wp2_with fail
      refine crc_Sum _ _ _ _ hs4 hs ?_
      rw [HX.out]
      intro w5 hs5 hx5
      have hb5 := below_self hb4 (Nat.le_refl _) hx5 hgl
      go_wp2_with fail
      refine crc_Made _ _ _ hs5 ?_
      go_wp2
      all_goals (try go_ret)
      all_goals exact ⟨rfl, hb5⟩

theorem law05_sums (s : ByteArray) (w : World) (hs : s.size ≤ 9223372036854775806) :
    Calls Try.prog 13 #[.string s] w fun e w' => e = .returned (.bool true) ∧ Below w.heap.size w w' := by
  have hlt := crcSum_lt s
  obtain ⟨x, hx⟩ : ∃ x, crcSum s = x := ⟨_, rfl⟩
  rw [hx] at hlt
  have HX := Lib.hid hx
  clear hx
  go_enter Try.func13, Try.ntmps13
  go_wp2_with fail
  refine (law05_awake _).mono ?_
  rintro e w0 ⟨rfl, hb0⟩
  by_cases hbig : (2000 : Int) < (s.size : Int)
  · go_wp2
    all_goals go_ret
    all_goals exact ⟨rfl, hb0⟩
  · have hbig : (s.size : Int) ≤ 2000 := by omega
    obtain ⟨z, hz⟩ : ∃ z, w0.heap.size = z := ⟨_, rfl⟩
    have hzl : w.heap.size ≤ z := by rw [← hz]; exact hb0.size
    obtain ⟨w1, hw1⟩ : ∃ w1, w0.alloc (.cells Try.zeroCells98 98) = w1 := ⟨_, rfl⟩
    have hb1 : Below w.heap.size w w1 := by rw [← hw1]; exact hb0.alloc (by rw [hz]; exact hzl) _
    have hz1 : Sums w1 z false := by
      show Blk _ _ _ _
      rw [← hw1, ← hz, ← zero_sums]
      exact Blk.new _ _ _
    have HW1 := Lib.hid hw1
    have HZ := Lib.hid hz
    clear hw1 hz
    go_wp2_with fail
    rw [HW1.out, HZ.out]
    clear HW1 HZ
    refine (ref05_Sum s _ hs).mono ?_
    rw [HX.out]
    rintro e w2 ⟨rfl, j, rfl⟩
    have hb1 := below_drewN hb1 j
    have hz1 : Sums (w1.drewN j) z false := hz1
    obtain ⟨w2, hw2⟩ : ∃ w2, w1.drewN j = w2 := ⟨_, rfl⟩
    rw [hw2] at hb1 hz1 ⊢
    clear hw2
    go_wp2_with fail
    refine (crc_New _).mono ?_
    obtain ⟨g, hg⟩ : ∃ g, w2.heap.size = g := ⟨_, rfl⟩
    have hgl : w.heap.size ≤ g := by rw [← hg]; exact hb1.size
    have hne : z ≠ g := by rw [← hg]; exact Nat.ne_of_lt (Blk.lt hz1)
    have hzg : z < g := by rw [← hg]; exact Blk.lt hz1
    rw [hg]
    rintro e w3 ⟨rfl, hb3, hs3⟩
    have hs3 : Sums w3 g false := hs3
    have hz3 : Sums w3 z false := Blk.below hz1 hb3 hzg
    have hb3 : Below w.heap.size w w3 := hb1.trans (hb3.mono hgl)
    clear hg hb1
    go_wp2_with fail
    refine crc_Sum _ _ _ _ hs3 hs ?_
    rw [HX.out]
    intro w4 hs4 hx4
    have hb4 := below_self hb3 (Nat.le_refl _) hx4 hgl
    have hz4 : Sums w4 z false := Blk.ext hz3 hx4 hne
    go_wp2_with fail
    refine crc_Sum_nil _ _ hs ?_
    rw [HX.out]
    intro w5 hx5
    have hb5 := hb4.trans (hx5.mono hb4.size)
    have hz5 : Sums w5 z false := Blk.below hz4 hx5 (Blk.lt hz4)
    go_wp2_with fail
    refine crc_Sum _ _ _ _ hz5 hs ?_
    rw [HX.out]
    intro w6 hs6 hx6
    have hb6 := below_self hb5 (Nat.le_refl _) hx6 hzl
    go_wp2_with fail
    refine crc_Made_nil _ ?_
    go_wp2_with fail
    refine crc_Made _ _ _ hs6 ?_
    go_wp2
    all_goals (try go_ret)
    all_goals exact ⟨rfl, hb6⟩

theorem crcSum_spoil (s : ByteArray) (k : Nat) (hk : k < s.size) (b' : UInt8) (hb : s.data.toList.getD k 0 ≠ b') : crcSum ⟨(s.data.toList.set k b').toArray⟩ ≠ crcSum s := by
  have hl : k < s.data.toList.length := by rw [Array.length_toList]; exact hk
  intro h
  unfold crcSum at h
  have h := cpl_inj (crcFold_lt _ (by decide)) (crcFold_lt _ (by decide)) h
  rw [List.getD_eq_getElem?_getD, List.getElem?_eq_getElem hl] at hb
  have e1 : s.data.toList = s.data.toList.take k ++ s.data.toList[k] :: s.data.toList.drop (k + 1) := by
    rw [List.getElem_cons_drop, List.take_append_drop]
  have e2 : s.data.toList.set k b' = s.data.toList.take k ++ b' :: s.data.toList.drop (k + 1) := List.set_eq_take_append_cons_drop.trans (if_pos hl)
  have h : crcFold 4294967295 (s.data.toList.set k b') = crcFold 4294967295 s.data.toList := h
  rw [e2] at h
  conv at h => rhs; rw [e1]
  exact crcFold_spoil _ _ (fun e => hb e.symm) (by decide) h
theorem xor_ne (b : UInt8) (y : Nat) (hy : y < 256) (hy0 : y ≠ 0) : b ≠ UInt8.ofNat (b.toNat ^^^ y) ∧ (UInt8.ofNat (b.toNat ^^^ y)).toNat = b.toNat ^^^ y := by
  have hx : b.toNat ^^^ y < 256 := Nat.xor_lt_two_pow (n := 8) (by have := b.toNat_lt; omega) hy
  have e : (UInt8.ofNat (b.toNat ^^^ y)).toNat = b.toNat ^^^ y := by rw [UInt8.toNat_ofNat']; exact Nat.mod_eq_of_lt hx
  refine ⟨fun h => hy0 ?_, e⟩
  have h1 : b.toNat ^^^ 0 = b.toNat ^^^ y := by rw [Nat.xor_zero, ← e, ← h]
  exact (xor_left_cancel h1).symm
set_option maxRecDepth 100000 in
set_option maxHeartbeats 4000000 in
theorem law05_spoils (s : ByteArray) (at_ by_ : Int) (w : World) (hs : s.size ≤ 9223372036854775806) (ha : 0 ≤ at_ ∧ at_ < 65536) (hb : 0 ≤ by_ ∧ by_ < 256) :
    Calls Try.prog 12 #[.string s, .int .u16 at_, .int .u8 by_] w fun e w' => e = .returned (.bool true) ∧ Below w.heap.size w w' := by
  obtain ⟨ha0, ha1⟩ := ha
  obtain ⟨hb0, hb1⟩ := hb
  by_cases hbig : (2000 : Int) < (s.size : Int) ∨ (s.size : Int) = 0 ∨ by_ = 0
  · have h1 : ((2000 : Int) < (s.size : Int) ∧ decide ((2000 : Int) < (s.size : Int)) = true) ∨ ((s.size : Int) ≤ 2000 ∧ (((s.size : Int) == 0) = true)) ∨ ((s.size : Int) ≤ 2000 ∧ (((s.size : Int) == 0) = false) ∧ (by_ == 0) = true) := by
      by_cases h1 : (2000 : Int) < (s.size : Int)
      · exact .inl ⟨h1, by simpa using h1⟩
      · by_cases h2 : (s.size : Int) = 0
        · exact .inr (.inl ⟨by omega, by simpa using h2⟩)
        · exact .inr (.inr ⟨by omega, by simpa using h2, by simp; omega⟩)
    clear hbig
    go_enter Try.func12, Try.ntmps12
    go_wp2_with fail
    refine (law05_awake _).mono ?_
    rintro e w0 ⟨rfl, hb0⟩
    rcases h1 with ⟨h1, h2⟩ | ⟨h1, h2⟩ | ⟨h1, h2, h3⟩
    all_goals go_wp2
    all_goals go_ret
    all_goals exact ⟨rfl, hb0⟩
  · obtain ⟨h1, h2, h3⟩ : (s.size : Int) ≤ 2000 ∧ ((s.size : Int) == 0) = false ∧ (by_ == 0) = false := ⟨by omega, by rw [beq_eq_false_iff_ne]; omega, by rw [beq_eq_false_iff_ne]; omega⟩
    go_enter Try.func12, Try.ntmps12
    go_wp2_with fail
    refine (law05_awake _).mono ?_
    rintro e w0 ⟨rfl, hb0⟩
    obtain ⟨g, hg⟩ : ∃ g, w0.heap.size = g := ⟨_, rfl⟩
    obtain ⟨c, hc⟩ : ∃ c, grownCap w0 s.size 0 5 = c := ⟨_, rfl⟩
    have hcv := _root_.Go.Lib.run_convert_string_bytes w0 9 36 5 s Try.underlying9 Try.underlying36 Try.underlying5
    have hcell : ∀ j, j < s.size → (bytesWorld w0 5 s).cell? ⟨w0.heap.size, j, none⟩ = some (.int .u8 (s.data.toList.getD j 0).toNat) := fun j hj => bytesWorld_cell w0 _ s j hj
    have hfr : ∀ j, j < s.size → (bytesWorld w0 5 s).frozen? ⟨w0.heap.size, j, none⟩ = false := fun j hj => by
      unfold World.frozen?
      rw [show (⟨w0.heap.size, j, none⟩ : Addr).block = w0.heap.size from rfl, bytesWorld_at_new]
      simp [bytesCells]; omega
    have hbx : Below w.heap.size w (bytesWorld w0 5 s) := hb0.trans ⟨rfl, rfl, rfl, by rw [bytesWorld_size]; omega, fun k hk => bytesWorld_at_old _ _ _ _ (Nat.lt_of_lt_of_le hk hb0.size)⟩
    obtain ⟨w1, hw1⟩ : ∃ w1, bytesWorld w0 5 s = w1 := ⟨_, rfl⟩
    have hgl : w.heap.size ≤ g := by rw [← hg]; exact hb0.size
    rw [hg, hw1] at hcell hfr
    rw [hw1] at hbx
    rw [hg, hc, hw1] at hcv
    clear hw1 hg hc
    have hs0 : 0 < s.size := by
      rw [beq_eq_false_iff_ne] at h2
      omega
    obtain ⟨k, hk⟩ : ∃ k : Nat, at_ % (s.size : Int) = k := ⟨(at_ % (s.size : Int)).toNat, by rw [Int.toNat_of_nonneg]; exact Int.emod_nonneg _ (by omega)⟩
    have hks : k < s.size := by
      have := Int.emod_lt_of_pos at_ (b := (s.size : Int)) (by omega)
      omega
    obtain ⟨y, rfl⟩ : ∃ y : Nat, by_ = y := ⟨by_.toNat, by omega⟩
    have hy0 : y ≠ 0 := by
      rw [beq_eq_false_iff_ne] at h3
      omega
    obtain ⟨b, hbb⟩ : ∃ b, s.data.toList.getD k 0 = b := ⟨_, rfl⟩
    obtain ⟨hne, hxn⟩ := xor_ne b y (by omega) hy0
    have hxr : bits .xor .u8 (b.toNat : Int) (y : Int) = ((b.toNat ^^^ y : Nat) : Int) := bits_xor8 _ _ b.toNat_lt (by omega)
    rw [← hxn] at hxr
    have hsp := crcSum_spoil s k hks (UInt8.ofNat (b.toNat ^^^ y)) (by rw [hbb]; exact hne)
    obtain ⟨b', hb'⟩ : ∃ b', UInt8.ofNat (b.toNat ^^^ y) = b' := ⟨_, rfl⟩
    rw [hb'] at hxr hsp
    have hck := hcell k hks
    rw [hbb] at hck
    have hfk := hfr k hks
    have hk0 : (0 : Int) ≤ (k : Int) := Int.natCast_nonneg _
    have hk1 : (k : Int) < (s.size : Int) := by omega
    have HC := Lib.hid hcell
    have HS := Lib.hid hsp
    have hlt1 := crcSum_lt s
    have hlt2 := crcSum_lt ⟨(s.data.toList.set k b').toArray⟩
    clear hcell hfr hbb hsp hne hxn hb'
    go_wp2_with fail
    refine (crc_New _).mono ?_
    obtain ⟨w2, hw2⟩ : ∃ w2, w1.setCell ⟨g, k, none⟩ (.int .u8 (b'.toNat : Int)) = w2 := ⟨_, rfl⟩
    have hgb : g < w2.heap.size := by
      have h := World.block_lt_of_cell? w1 _ hck
      rw [← hw2]; simpa using h
    have hb2 : Below w.heap.size w w2 := by rw [← hw2]; exact hbx.setCell (p := ⟨g, k, none⟩) hgl _
    have hcell2 : ∀ j, j < s.size → w2.cell? ⟨g, 0 + j, none⟩ = some (.int .u8 (((s.data.toList.set k b').map fun c => (c.toNat : Int)).getD j 0)) := fun j hj => by
      have hl : j < s.data.toList.length := by rw [Array.length_toList]; exact hj
      rw [← hw2, Nat.zero_add, List.getD_eq_getElem?_getD, List.getElem?_map, List.getElem?_set]
      by_cases e : k = j
      · subst e
        rw [World.cell?_setCell_same _ _ _ hck, if_pos rfl, if_pos hl]
        rfl
      · rw [World.cell?_setCell_other _ _ _ _ (by simp [e]), HC.out j hj, if_neg e, List.getD_eq_getElem?_getD, List.getElem?_eq_getElem hl]
        rfl
    rw [hw2]
    clear hw2 hck hfk HC
    obtain ⟨g2, hg2⟩ : ∃ g2, w2.heap.size = g2 := ⟨_, rfl⟩
    have hgl2 : w.heap.size ≤ g2 := by rw [← hg2]; exact hb2.size
    rw [hg2]
    rintro e w3 ⟨rfl, hb3, hs3⟩
    have hs3 : Sums w3 g2 false := hs3
    have hcv3 := run_convert_bytes_arg w3 36 5 Try.underlying36 Try.underlying5 g 0 s.size c ((s.data.toList.set k b').map fun c => (c.toNat : Int)) (by rw [List.length_map, List.length_set, Array.length_toList]; rfl)
      (fun i hi => (hb3.cell (by show g < g2; rw [← hg2]; exact hgb)).trans (hcell2 i hi)) 9 Try.underlying9
    have hstr : strOfNums ((s.data.toList.set k b').map fun c => (c.toNat : Int)) = ⟨(s.data.toList.set k b').toArray⟩ := by
      apply ByteArray.ext
      apply Array.ext'
      rw [strOfNums_data, List.map_map]
      show _ = s.data.toList.set k b'
      conv => rhs; rw [← List.map_id (s.data.toList.set k b')]
      apply List.map_congr_left
      intro c _
      simp
    have hs2 : (⟨(s.data.toList.set k b').toArray⟩ : ByteArray).size ≤ 9223372036854775806 := by
      have : (⟨(s.data.toList.set k b').toArray⟩ : ByteArray).size = s.size := by show (s.data.toList.set k b').toArray.size = _; simp
      rw [this]; exact hs
    rw [hstr] at hcv3
    obtain ⟨s', hs'⟩ : ∃ s', (⟨(s.data.toList.set k b').toArray⟩ : ByteArray) = s' := ⟨_, rfl⟩
    rw [hs'] at hcv3 hlt2 HS hs2
    have hb3 : Below w.heap.size w w3 := hb2.trans (hb3.mono hgl2)
    clear hs' hcell2 hg2 hcv hstr
    obtain ⟨x, hx⟩ : ∃ x, crcSum s = x := ⟨_, rfl⟩
    obtain ⟨x', hx'⟩ : ∃ x', crcSum s' = x' := ⟨_, rfl⟩
    have hnn : x' ≠ x := by rw [← hx, ← hx']; exact HS.out
    have hbn : ((x' : Int) == (x : Int)) = false := by rw [beq_eq_false_iff_ne]; omega
    rw [hx] at hlt1
    rw [hx'] at hlt2
    have HX := Lib.hid hx
    have HX' := Lib.hid hx'
    clear hx hx' HS hnn
    go_wp2_with fail
    refine crc_Sum _ _ _ _ hs3 hs2 ?_
    rw [HX'.out]
    intro w4 hs4 hx4
    have hb4 := below_self hb3 (Nat.le_refl _) hx4 hgl2
    go_wp2_with fail
    refine crc_Sum _ _ _ _ hs4 hs ?_
    rw [HX.out]
    intro w5 hs5 hx5
    have hb5 := below_self hb4 (Nat.le_refl _) hx5 hgl2
    go_wp2
    go_ret
    exact ⟨by simpa using hbn, hb5⟩
end Go.Proofs.Ytdfpmlnicbabiaa
