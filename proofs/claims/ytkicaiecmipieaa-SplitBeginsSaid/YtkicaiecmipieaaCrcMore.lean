/- The sum of texts. -/
import Derived.Test.YtkicaiecmipieaaCrcOnce
import Derived.Test.YtkicaiecmipieaaMem
namespace Go.Proofs.Ytkicaiecmipieaa
open Go.RowKit
theorem crcFold_take0 (n : Nat) (l : List UInt8) : n = crcFold n (l.take 0) := by rw [List.take_zero]; rfl
theorem crcMore_one (n : Nat) (t : ByteArray) : crcMore n [t] = cpl (crcFold (cpl n) t.data.toList) := rfl
attribute [local irreducible] halve halfN crcPut crcFold crcSum

theorem cpl_bits (n : Nat) (h : n < 4294967296) : bits .xor .u32 IntKind.u32.max (n : Int) = ((cpl n : Nat) : Int) := by
  have e : IntKind.u32.max = ((4294967295 : Nat) : Int) := by decide
  rw [e, bits_xor32 _ _ (by decide) h]
  congr 1
  apply Nat.eq_of_testBit_eq
  intro i
  rw [Nat.testBit_xor]
  have h1 : (4294967295 : Nat) = 2 ^ 32 - 1 := by decide
  have h2 : cpl n = 2 ^ 32 - (n + 1) := by unfold cpl; omega
  rw [h2, Nat.testBit_two_pow_sub_succ (by omega), h1, Nat.testBit_two_pow_sub_one]
  by_cases hi : i < 32
  · simp [hi]
  · simp only [hi, decide_false, Bool.false_and, Bool.false_bne]
    exact Nat.testBit_lt_two_pow (Nat.lt_of_lt_of_le (by omega : n < 2 ^ 32) (Nat.pow_le_pow_right (by decide) (by omega)))
theorem step_low (m : Nat) (c : UInt8) : bits .xor .u8 ((m : Int) % 256) (c.toNat : Int) = ((m % 256 ^^^ c.toNat : Nat) : Int) := by
  have := c.toNat_lt
  have e : (m : Int) % 256 = ((m % 256 : Nat) : Int) := by omega
  rw [e]
  exact bits_xor8 _ _ (by omega) (by omega)
theorem low_lt (m : Nat) (c : UInt8) : m % 256 ^^^ c.toNat < 256 := Nat.xor_lt_two_pow (n := 8) (by omega) (by have := c.toNat_lt; omega)
theorem step_all (m : Nat) (c : UInt8) (hm : m < 4294967296) : bits .xor .u32 ((halve (m % 256 ^^^ c.toNat) : Nat) : Int) ((m : Int) / 256) = ((crcPut m c.toNat : Nat) : Int) := by
  have := c.toNat_lt
  have hl := low_lt m c
  have e : (m : Int) / 256 = ((m / 256 : Nat) : Int) := by omega
  rw [e, bits_xor32 _ _ (halve_lt (by omega)) (by omega), crcPut_table m c.toNat (by omega)]

def MoreRel (W : World) (n : Nat) (l : List ByteArray) (s i : Value) (w : World) : Prop :=
  ∃ k m : Nat, k ≤ l.length ∧ i = .int .i64 (k : Int) ∧ m = (l.take k).foldl (fun s t => crcFold s t.data.toList) n ∧ m < 4294967296 ∧ s = .int .u32 (m : Int) ∧ ∃ j, w = W.drewN j
def MoreInRel (W : World) (n : Nat) (t : ByteArray) (s i : Value) (w : World) : Prop :=
  ∃ k m : Nat, k ≤ t.size ∧ i = .int .i64 (k : Int) ∧ m = crcFold n (t.data.toList.take k) ∧ m < 4294967296 ∧ s = .int .u32 (m : Int) ∧ ∃ j, w = W.drewN j

set_option maxRecDepth 100000 in
set_option maxHeartbeats 4000000 in
theorem crc_More (g : Nat) (m : Bool) (n : Nat) (A : Option Addr) (len c : Nat) (l : List ByteArray) (w : World) (h : Sums w g m) (hn : n < 4294967296) (hl : StrsAt w A len l) (hA : ∀ ad, A = some ad → 0 < len → ad.block ≠ g) (hlen : len ≤ 9223372036854775806)
    (hsz : ∀ s ∈ l, s.size ≤ 9223372036854775807) {R : Ending → World → Prop}
    (hR : ∀ w', Sums w' g true → Ext (· = g) w w' → R (.returned (.int .u32 (crcMore n l : Nat))) w') : Calls Try.prog 94 #[.pointer (some ⟨g, 0, none⟩), .int .u32 (n : Int), .slice A len c] w R := by
  have hmf : ∀ (fn : Fn) (first cap : Array Value) (w : World), (Instr.makeFunc fn first cap).run Try.prog w = .ok (.func fn first cap) w := fun _ _ _ _ => rfl
  have hcp := cpl_bits n hn
  have HLN := Lib.hid hl.1
  obtain ⟨n1, hn1⟩ : ∃ n1, cpl n = n1 := ⟨_, rfl⟩
  have hn2 : n1 < 4294967296 := by rw [← hn1]; exact cpl_lt n
  rw [hn1] at hcp
  have hres : crcMore n l = cpl (l.foldl (fun s t => crcFold s t.data.toList) n1) := by rw [← hn1]; rfl
  have HRES := Lib.hid hres
  clear hn1 hres
  go_enter Try.func94, Try.ntmps94
  go_wp2_with fail
  refine once_Do g m _ h ?_
  intro w1 hs1 hx1
  have hl1 := hl.ext hx1 (fun ad e h0 => hA ad e h0)
  clear hl h
  go_wp2_with fail
  go_loopw [1, 24] (MoreRel w1 n1 l) (fun _ i _ => len - (intOf i).toNat)
  case atStart => exact ⟨0, n1, by omega, rfl, rfl, hn2, rfl, 0, rfl⟩
  case round =>
    obtain ⟨k, m1, hk, rfl, hm1, hm2, rfl, j, rfl⟩ := hrel
    rw [HLN.out] at hk
    clear hcp
    have hk0 : (0 : Int) ≤ (k : Int) := Int.natCast_nonneg _
    by_cases hlt : k < len
    · have hk1 : (k : Int) < (len : Int) := by omega
      obtain ⟨ad, rfl, hc, hb⟩ := hl1.2 k hlt
      obtain ⟨t, ht⟩ : ∃ t, l.getD k ⟨#[]⟩ = t := ⟨_, rfl⟩
      rw [ht] at hc
      have htm : t ∈ l := by
        rw [← ht, List.getD_eq_getElem?_getD, List.getElem?_eq_getElem (by rw [HLN.out]; exact hlt)]
        exact List.getElem_mem _
      have htz := hsz t htm
      have hnext : (l.take (k + 1)).foldl (fun s t => crcFold s t.data.toList) n1 = crcFold m1 t.data.toList := by
        rw [List.take_succ_eq_append_getElem (by rw [HLN.out]; exact hlt), List.foldl_append, ← hm1, ← ht, List.getD_eq_getElem?_getD, List.getElem?_eq_getElem (by rw [HLN.out]; exact hlt)]
        rfl
      have HNX := Lib.hid hnext
      clear hnext hm1 htm ht
      have hlx := Lib.hid hl1
      have hax := Lib.hid hA
      have hsx := Lib.hid hsz
      clear hl1 hA hsz
      go_wp2_with fail
      go_loopw [1, 30] (MoreInRel w1 m1 t) (fun _ i _ => t.size - (intOf i).toNat)
      case atStart => exact ⟨0, m1, by omega, rfl, crcFold_take0 _ _, hm2, rfl, j, rfl⟩
      case round =>
        obtain ⟨q, m3, hq, rfl, hm3, hm4, rfl, j2, rfl⟩ := hrel
        have hq0 : (0 : Int) ≤ (q : Int) := Int.natCast_nonneg _
        by_cases hq1 : q < t.size
        · have hq2 : (q : Int) < (t.size : Int) := by omega
          have hbe := bt_eq t q hq1
          rw [bt_u8] at hbe
          have h2 : crcFold m1 (t.data.toList.take (q + 1)) = crcPut m3 (t.data.toList.getD q 0).toNat := by
            rw [hm3]; exact crcFold_snoc _ _ _ (by rw [Array.length_toList]; exact hq1)
          obtain ⟨b, hbb⟩ : ∃ b, t.data.toList.getD q 0 = b := ⟨_, rfl⟩
          rw [hbb] at hbe h2
          have H2 := Lib.hid h2
          clear hbb hm3 h2
          have hlow := step_low m3 b
          have hll := low_lt m3 b
          obtain ⟨x, hx⟩ : ∃ x, m3 % 256 ^^^ b.toNat = x := ⟨_, rfl⟩
          have hall := step_all m3 b hm4
          rw [hx] at hlow hll hall
          have hcell := hs1.cellT x hll
          have hm30 : (0 : Int) ≤ (m3 : Int) := Int.natCast_nonneg _
          have hx0 : (0 : Int) ≤ (x : Int) := Int.natCast_nonneg _
          have hx1' : (x : Int) < 256 := by omega
          clear hx
          go_wp2_with fail
          go_quiet (fail)
          go_wp2
          exact ⟨⟨q + 1, crcPut m3 b.toNat, by omega, rfl, H2.out.symm, crcPut_lt b hm4, rfl, j2 + nq, rfl⟩, by simp [intOf]; omega⟩
        · obtain rfl : q = t.size := by omega
          have e : t.data.toList.take t.size = t.data.toList := List.take_of_length_le (by rw [Array.length_toList]; exact Nat.le_refl _)
          rw [e] at hm3
          have HM := Lib.hid hm3
          clear hm3 e
          go_wp2
          exact ⟨⟨k + 1, m3, by rw [HLN.out]; omega, rfl, HM.out.trans HNX.out.symm, hm4, rfl, j2, rfl⟩, by simp [intOf]; omega⟩
    · obtain rfl : k = len := by omega
      have e : l.take k = l := List.take_of_length_le (by rw [HLN.out]; exact Nat.le_refl _)
      rw [e] at hm1
      have hcp := cpl_bits m1 hm2
      have hr : crcMore n l = cpl m1 := by rw [HRES.out, hm1]
      rw [hr] at hR
      clear hr hm1 e
      go_wp2
      exact hR _ (Blk.drewN hs1 j) (hx1.drewN j)

set_option maxRecDepth 100000 in
set_option maxHeartbeats 4000000 in
/-- Of nil sums: new ones are made. -/
theorem crc_More_nil (n : Nat) (A : Option Addr) (len c : Nat) (l : List ByteArray) (w : World) (hn : n < 4294967296) (hl : StrsAt w A len l) (hlen : len ≤ 9223372036854775806)
    (hsz : ∀ s ∈ l, s.size ≤ 9223372036854775807) {R : Ending → World → Prop}
    (hR : ∀ w', Below w.heap.size w w' → R (.returned (.int .u32 (crcMore n l : Nat))) w') : Calls Try.prog 94 #[.pointer none, .int .u32 (n : Int), .slice A len c] w R := by
  have hmf : ∀ (fn : Fn) (first cap : Array Value) (w : World), (Instr.makeFunc fn first cap).run Try.prog w = .ok (.func fn first cap) w := fun _ _ _ _ => rfl
  have hcp := cpl_bits n hn
  have HLN := Lib.hid hl.1
  have hA : ∀ ad : Addr, A = some ad → 0 < len → ad.block ≠ w.heap.size := fun ad e h0 => by
    obtain ⟨ad', e', _, hb⟩ := hl.2 0 h0
    rw [e] at e'; injection e' with e'; subst e'
    exact Nat.ne_of_lt hb
  obtain ⟨n1, hn1⟩ : ∃ n1, cpl n = n1 := ⟨_, rfl⟩
  have hn2 : n1 < 4294967296 := by rw [← hn1]; exact cpl_lt n
  rw [hn1] at hcp
  have hres : crcMore n l = cpl (l.foldl (fun s t => crcFold s t.data.toList) n1) := by rw [← hn1]; rfl
  have HRES := Lib.hid hres
  clear hn1 hres
  have hb0 : Below w.heap.size w (w.alloc (.cells Try.zeroCells151 151)) := (Below.refl _ _).alloc (Nat.le_refl _) _
  have hs0 : Sums (w.alloc (.cells Try.zeroCells151 151)) w.heap.size false := by
    show Blk _ _ _ _
    rw [← zero_sums]
    exact Blk.new _ _ _
  have hl0 := hl.below hb0 (Nat.le_refl _)
  go_enter Try.func94, Try.ntmps94
  go_wp2_with fail
  refine once_Do w.heap.size false _ hs0 ?_
  intro w1 hs1 hx1
  obtain ⟨g, hg⟩ : ∃ g, w.heap.size = g := ⟨_, rfl⟩
  rw [hg] at hs1 hx1 hA
  have hl1 := hl0.ext hx1 (fun ad e h0 => hA ad e h0)
  have hb1 := Lib.hid (below_self hb0 (Nat.le_refl _) hx1 (Nat.le_of_eq hg))
  clear hl hl0 hs0 hb0 hx1
  rw [hg]
  clear hg
  go_wp2_with fail
  go_loopw [1, 24] (MoreRel w1 n1 l) (fun _ i _ => len - (intOf i).toNat)
  case atStart => exact ⟨0, n1, by omega, rfl, rfl, hn2, rfl, 0, rfl⟩
  case round =>
    obtain ⟨k, m1, hk, rfl, hm1, hm2, rfl, j, rfl⟩ := hrel
    rw [HLN.out] at hk
    clear hcp
    have hk0 : (0 : Int) ≤ (k : Int) := Int.natCast_nonneg _
    by_cases hlt : k < len
    · have hk1 : (k : Int) < (len : Int) := by omega
      obtain ⟨ad, rfl, hc, hb⟩ := hl1.2 k hlt
      obtain ⟨t, ht⟩ : ∃ t, l.getD k ⟨#[]⟩ = t := ⟨_, rfl⟩
      rw [ht] at hc
      have htm : t ∈ l := by
        rw [← ht, List.getD_eq_getElem?_getD, List.getElem?_eq_getElem (by rw [HLN.out]; exact hlt)]
        exact List.getElem_mem _
      have htz := hsz t htm
      have hnext : (l.take (k + 1)).foldl (fun s t => crcFold s t.data.toList) n1 = crcFold m1 t.data.toList := by
        rw [List.take_succ_eq_append_getElem (by rw [HLN.out]; exact hlt), List.foldl_append, ← hm1, ← ht, List.getD_eq_getElem?_getD, List.getElem?_eq_getElem (by rw [HLN.out]; exact hlt)]
        rfl
      have HNX := Lib.hid hnext
      clear hnext hm1 htm ht
      have hlx := Lib.hid hl1
      have hax := Lib.hid hA
      have hsx := Lib.hid hsz
      clear hl1 hA hsz
      go_wp2_with fail
      go_loopw [1, 30] (MoreInRel w1 m1 t) (fun _ i _ => t.size - (intOf i).toNat)
      case atStart => exact ⟨0, m1, by omega, rfl, crcFold_take0 _ _, hm2, rfl, j, rfl⟩
      case round =>
        obtain ⟨q, m3, hq, rfl, hm3, hm4, rfl, j2, rfl⟩ := hrel
        have hq0 : (0 : Int) ≤ (q : Int) := Int.natCast_nonneg _
        by_cases hq1 : q < t.size
        · have hq2 : (q : Int) < (t.size : Int) := by omega
          have hbe := bt_eq t q hq1
          rw [bt_u8] at hbe
          have h2 : crcFold m1 (t.data.toList.take (q + 1)) = crcPut m3 (t.data.toList.getD q 0).toNat := by
            rw [hm3]; exact crcFold_snoc _ _ _ (by rw [Array.length_toList]; exact hq1)
          obtain ⟨b, hbb⟩ : ∃ b, t.data.toList.getD q 0 = b := ⟨_, rfl⟩
          rw [hbb] at hbe h2
          have H2 := Lib.hid h2
          clear hbb hm3 h2
          have hlow := step_low m3 b
          have hll := low_lt m3 b
          obtain ⟨x, hx⟩ : ∃ x, m3 % 256 ^^^ b.toNat = x := ⟨_, rfl⟩
          have hall := step_all m3 b hm4
          rw [hx] at hlow hll hall
          have hcell := hs1.cellT x hll
          have hm30 : (0 : Int) ≤ (m3 : Int) := Int.natCast_nonneg _
          have hx0 : (0 : Int) ≤ (x : Int) := Int.natCast_nonneg _
          have hx1' : (x : Int) < 256 := by omega
          clear hx
          go_wp2_with fail
          go_quiet (fail)
          go_wp2
          exact ⟨⟨q + 1, crcPut m3 b.toNat, by omega, rfl, H2.out.symm, crcPut_lt b hm4, rfl, j2 + nq, rfl⟩, by simp [intOf]; omega⟩
        · obtain rfl : q = t.size := by omega
          have e : t.data.toList.take t.size = t.data.toList := List.take_of_length_le (by rw [Array.length_toList]; exact Nat.le_refl _)
          rw [e] at hm3
          have HM := Lib.hid hm3
          clear hm3 e
          go_wp2
          exact ⟨⟨k + 1, m3, by rw [HLN.out]; omega, rfl, HM.out.trans HNX.out.symm, hm4, rfl, j2, rfl⟩, by simp [intOf]; omega⟩
    · obtain rfl : k = len := by omega
      have e : l.take k = l := List.take_of_length_le (by rw [HLN.out]; exact Nat.le_refl _)
      rw [e] at hm1
      have hcp := cpl_bits m1 hm2
      have hr : crcMore n l = cpl m1 := by rw [HRES.out, hm1]
      rw [hr] at hR
      clear hr hm1 e
      go_wp2
      exact below_drewN hb1.out j

theorem crc_Sum (g : Nat) (m : Bool) (t : ByteArray) (w : World) (h : Sums w g m) (ht : t.size ≤ 9223372036854775806) {R : Ending → World → Prop}
    (hR : ∀ w', Sums w' g true → Ext (· = g) w w' → R (.returned (.int .u32 (crcSum t : Nat))) w') : Calls Try.prog 86 #[.pointer (some ⟨g, 0, none⟩), .string t] w R := by
  have hlt : g < w.heap.size := by cases m <;> exact Blk.lt h
  have h1 : ∀ o, Sums (w.alloc o) g m := fun o => by cases m <;> exact Blk.alloc h o
  rw [← crcSum_more] at hR
  go_enter Try.func86, Try.ntmps86
  go_wp2_with fail
  refine crc_More g m 0 _ _ _ [t] _ (h1 _) (by decide) (StrsAt.new1 _ _ _) (fun ad e _ => by injection e with e; subst e; exact Nat.ne_of_gt hlt) (by decide) (fun s hs => by rw [List.mem_singleton.1 hs]; exact Nat.le_trans ht (by decide)) ?_
  intro w2 hs2 hx2
  go_wp2
  exact hR _ hs2 (((Ext.refl (· = g) w).alloc _).trans hx2 (fun _ _ e => e))
theorem crc_Sum_nil (t : ByteArray) (w : World) (ht : t.size ≤ 9223372036854775806) {R : Ending → World → Prop}
    (hR : ∀ w', Below w.heap.size w w' → R (.returned (.int .u32 (crcSum t : Nat))) w') : Calls Try.prog 86 #[.pointer none, .string t] w R := by
  rw [← crcSum_more] at hR
  go_enter Try.func86, Try.ntmps86
  go_wp2_with fail
  refine crc_More_nil 0 _ _ _ [t] _ (by decide) (StrsAt.new1 _ _ _) (by decide) (fun s hs => by rw [List.mem_singleton.1 hs]; exact Nat.le_trans ht (by decide)) ?_
  intro w2 hb2
  go_wp2
  exact ((Below.refl _ _).alloc (Nat.le_refl _) _).trans (hb2.mono (by simp))
end Go.Proofs.Ytkicaiecmipieaa
