/- CrcParts' walk. -/
import Derived.Test.YtdfpmlnicbabiaaLaw05
namespace Go.Proofs.Ytdfpmlnicbabiaa
open Go.RowKit Go.Lib
attribute [local irreducible] halve halfN crcPut crcFold crcSum crcMore

def wholeOf (l : List ByteArray) : List UInt8 := l.flatMap fun s => s.data.toList
theorem crcMore_whole (l : List ByteArray) (n : Nat) : l.foldl (fun s t => crcFold s t.data.toList) n = crcFold n (wholeOf l) := by
  induction l generalizing n with
  | nil => exact crcFold_take0 n []
  | cons t l ih =>
    rw [List.foldl_cons, ih]
    show _ = crcFold n (t.data.toList ++ wholeOf l)
    rw [crcFold_append]
theorem crcMore_eq (n : Nat) (l : List ByteArray) : crcMore n l = cpl (crcFold (cpl n) (wholeOf l)) := by unfold crcMore; rw [crcMore_whole]
theorem crcSum_eq (t : ByteArray) : crcSum t = cpl (crcFold 4294967295 t.data.toList) := by unfold crcSum; rfl

theorem sums_alloc {w : World} {g : Nat} {b : Bool} (h : Sums w g b) (o : Obj) : Sums (w.alloc o) g b := by cases b <;> exact Blk.alloc h o
theorem sums_lt {w : World} {g : Nat} {b : Bool} (h : Sums w g b) : g < w.heap.size := by cases b <;> exact Blk.lt h
theorem sums_drewN {w : World} {g : Nat} {b : Bool} (h : Sums w g b) (n : Nat) : Sums (w.drewN n) g b := by cases b <;> exact h
theorem more_step (t s : ByteArray) : crcMore (crcSum t) [s] = crcSum (t ++ s) := by
  rw [crcMore_eq, crcSum_eq, crcSum_eq, cpl_cpl (crcFold_lt _ (by decide))]
  have e : (t ++ s).data.toList = t.data.toList ++ s.data.toList := by simp
  rw [e, crcFold_append]
  simp [wholeOf]

def PartsRel (W : World) (B g : Nat) (A : Option Addr) (n : Nat) (l : List ByteArray) (s m i : Value) (w : World) : Prop :=
  ∃ (k : Nat) (t : ByteArray) (x : Nat) (b : Bool), k ≤ n ∧ i = .int .i64 (k : Int) ∧ s = .string t ∧ t.data.toList = wholeOf (l.take k) ∧ t.size ≤ 200 * k ∧ m = .int .u32 (x : Int) ∧ x = crcSum t ∧
    Sums w g b ∧ Below B W w ∧ StrsAt w A n l

set_option maxHeartbeats 4000000 in
set_option maxRecDepth 100000 in
theorem law05_parts (A : Option Addr) (n c : Nat) (l : List ByteArray) (w : World) (hl : StrsAt w A n l) (hn : n ≤ 9223372036854775806) (hs : ∀ s ∈ l, s.size ≤ 9223372036854775807) :
    Calls Try.prog 11 #[.slice A n c] w fun e w' => e = .returned (.bool true) ∧ Below w.heap.size w w' := by
  go_enter Try.func11, Try.ntmps11
  go_wp2_with fail
  refine (law05_awake _).mono ?_
  rintro e w0 ⟨rfl, hb0⟩
  by_cases hbig : (40 : Int) < (n : Int)
  · go_wp2
    all_goals go_ret
    all_goals exact ⟨rfl, hb0⟩
  · have hbig : (n : Int) ≤ 40 := by omega
    have hl0 := hl.below hb0 (Nat.le_refl _)
    go_wp2_with fail
    refine (crc_New _).mono ?_
    obtain ⟨g, hg⟩ : ∃ g, w0.heap.size = g := ⟨_, rfl⟩
    have hgl : w.heap.size ≤ g := by rw [← hg]; exact hb0.size
    rw [hg]
    rintro e w1 ⟨rfl, hb1, hs1⟩
    have hl1 := hl0.below hb1 (by rw [hg]; exact Nat.le_refl _)
    have hb1 : Below w.heap.size w w1 := hb0.trans (hb1.mono hgl)
    have hs1 : Sums w1 g false := hs1
    clear hg
    go_wp2_with fail
    have hA : ∀ ad, A = some ad → 0 < n → ad.block ≠ g := fun ad e h0 => by
      obtain ⟨ad', e', _, hb⟩ := hl.2 0 h0
      rw [e] at e'; injection e' with e'; subst e'
      omega
    have HLN := Lib.hid hl.1
    have HA := Lib.hid hA
    have HS := Lib.hid hs
    clear hA hl hl0 hb0 hs
    go_loopw [3, 5, 6] (PartsRel w w.heap.size g A n l) (fun _ _ i _ => n - (intOf i).toNat)
    case atStart => exact ⟨0, ⟨#[]⟩, 0, false, by omega, rfl, rfl, rfl, by decide, rfl, sum_none.symm, hs1, hb1, hl1⟩
    case round =>
      clear hs1 hb1 hl1
      obtain ⟨k, t, x, b, hk, rfl, rfl, ht, htz, rfl, hx, hs1, hb1, hl1⟩ := hrel
      have hk0 : (0 : Int) ≤ (k : Int) := Int.natCast_nonneg _
      by_cases hlt : k < n
      · have hk1 : (k : Int) < (n : Int) := by omega
        obtain ⟨ad, rfl, hc, hb⟩ := hl1.2 k hlt
        obtain ⟨s, hs⟩ : ∃ s, l.getD k ⟨#[]⟩ = s := ⟨_, rfl⟩
        rw [hs] at hc
        have hkl : k < l.length := by rw [HLN.out]; exact hlt
        have hsm : s ∈ l := by
          rw [← hs, List.getD_eq_getElem?_getD, List.getElem?_eq_getElem hkl]
          exact List.getElem_mem _
        have hss := HS.out s hsm
        have hnext : wholeOf (l.take (k + 1)) = t.data.toList ++ s.data.toList := by
          rw [List.take_succ_eq_append_getElem hkl, ← hs, List.getD_eq_getElem?_getD, List.getElem?_eq_getElem hkl, ht]
          rw [wholeOf, wholeOf, List.flatMap_append]
          simp [List.flatMap_cons, List.flatMap_nil]
        have HNX := Lib.hid hnext
        have HT := Lib.hid ht
        have HL := Lib.hid hl1
        have HX := Lib.hid hx
        clear hnext ht hl1 hx hsm hs
        by_cases h200 : (200 : Int) < (s.size : Int)
        · go_wp2
          all_goals go_ret
          all_goals exact ⟨rfl, hb1⟩
        · have h200 : (s.size : Int) ≤ 200 := by omega
          go_wp2_with fail
          have hx32 : x < 4294967296 := by rw [HX.out]; exact crcSum_lt t
          refine crc_More g b x _ _ _ [s] _ (sums_alloc hs1 _) hx32 (StrsAt.new1 _ _ _) (fun ad e _ => by injection e with e; subst e; exact Nat.ne_of_gt (sums_lt hs1)) (by decide) (fun s' h => by rw [List.mem_singleton.1 h]; exact hss) ?_
          rw [show crcMore x [s] = crcSum (t ++ s) from by rw [HX.out]; exact more_step t s]
          intro w2 hs2 hx2
          have hx2 : Ext (· = g) wr w2 := ((Ext.refl (· = g) wr).alloc _).trans hx2 (fun _ _ e => e)
          have hb2 := below_self hb1 (Nat.le_refl _) hx2 hgl
          have hl2 := Lib.hid (HL.out.ext hx2 (fun ad e h0 => HA.out ad e h0))
          have hsz : (t ++ s).size = t.size + s.size := ByteArray.size_append
          go_wp2
          exact ⟨⟨k + 1, t ++ s, crcSum (t ++ s), true, by omega, rfl, rfl, by rw [HNX.out]; simp, by rw [hsz]; omega, rfl, rfl, hs2, hb2, hl2.out⟩, by simp [intOf]; omega⟩
      · obtain rfl : k = n := by omega
        have hall : crcMore 0 l = crcSum t := by
          have e : l.take k = l := List.take_of_length_le (by rw [HLN.out]; exact Nat.le_refl _)
          rw [e] at ht
          rw [crcMore_eq, crcSum_eq, ht]
          rfl
        rw [← hx] at hall
        have HX := Lib.hid hx.symm
        have HALL := Lib.hid hall
        clear hx hall ht
        go_wp2_with fail
        refine (ref05_Sum t _ (by omega)).mono ?_
        rw [HX.out]
        rintro e w2 ⟨rfl, j, rfl⟩
        have hb2 := below_drewN hb1 j
        have hs2 := sums_drewN hs1 j
        have hl2 : StrsAt (wr.drewN j) A k l := hl1
        obtain ⟨w2, hw2⟩ : ∃ w2, wr.drewN j = w2 := ⟨_, rfl⟩
        rw [hw2] at hb2 hs2 hl2 ⊢
        clear hw2 hl1 hb1 hs1
        go_wp2_with fail
        refine crc_More g b 0 _ _ _ l _ hs2 (by decide) hl2 HA.out (by omega) HS.out ?_
        rw [HALL.out]
        intro w3 hs3 hx3
        have hb3 := below_self hb2 (Nat.le_refl _) hx3 hgl
        clear hl2
        go_wp2_with fail
        refine crc_Sum _ _ _ _ hs3 (by omega) ?_
        rw [HX.out]
        intro w4 hs4 hx4
        have hb4 := below_self hb3 (Nat.le_refl _) hx4 hgl
        go_wp2
        all_goals (try go_ret)
        all_goals exact ⟨rfl, hb4⟩
end Go.Proofs.Ytdfpmlnicbabiaa
