/- The contracts of frame's coder: New, sum, Room, version. -/
import Derived.Test.YtkicaiecmipieaaCrc
import Derived.Test.YtkicaiecmipieaaBlob
import Derived.Test.YtkicaiecmipieaaBlobPut
import Derived.Test.YtkicaiecmipieaaFixed2
import Derived.Test.YtkicaiecmipieaaLen64
namespace Go.Proofs.Ytkicaiecmipieaa
open Go.RowKit Go.Lib

/-- Block k is a coder, with its sums in block z. -/
def Cdr (w : World) (k z : Nat) (m : Bool) : Prop := Blk w k 99 #[.pointer (some ⟨z, 0, none⟩)] ∧ Sums w z m
/-- A coder's pointer, or nil; its sums' block. -/
def Cd (w : World) (P : Option Addr) (Z : Option Nat) : Prop := (P = none ∧ Z = none) ∨ ∃ k z m, P = some ⟨k, 0, none⟩ ∧ Z = some z ∧ k ≠ z ∧ Cdr w k z m
section
variable {w w' : World} {S : Nat → Prop} {P : Option Addr} {Z : Option Nat}
theorem sums_ext {z : Nat} {m : Bool} (h : Sums w z m) (he : Ext S w w') (hn : ¬ S z) : Sums w' z m := by
  unfold Sums at *
  split at h
  · rw [if_pos (by assumption)]; exact Blk.ext h he hn
  · rw [if_neg (by assumption)]; exact Blk.ext h he hn
theorem sums_lt' {z : Nat} {m : Bool} (h : Sums w z m) : z < w.heap.size := by
  unfold Sums at h
  split at h
  · exact Blk.lt h
  · exact Blk.lt h
theorem Cd.ext (h : Cd w P Z) (he : Ext S w w') (hp : ∀ a, P = some a → ¬ S a.block) (hz : ∀ z, Z = some z → ¬ S z) : Cd w' P Z := by
  rcases h with h | ⟨k, z, m, rfl, rfl, hkz, hb, hs⟩
  · exact .inl h
  · exact .inr ⟨k, z, m, rfl, rfl, hkz, hb.ext he (hp _ rfl), sums_ext hs he (hz _ rfl)⟩
theorem Cd.lt (h : Cd w P Z) : (∀ a, P = some a → a.block < w.heap.size) ∧ ∀ z, Z = some z → z < w.heap.size := by
  rcases h with ⟨rfl, rfl⟩ | ⟨k, z, m, rfl, rfl, hkz, hb, hs⟩
  · exact ⟨fun a h => (by cases h), fun z h => (by cases h)⟩
  · exact ⟨fun a h => (by injection h with h; subst h; exact hb.lt), fun z' h => (by injection h with h; subst h; exact sums_lt' hs)⟩
theorem Cd.below {B : Nat} (h : Cd w P Z) (hb : Below B w w') (hB : w.heap.size ≤ B) : Cd w' P Z :=
  h.ext (S := fun b => B ≤ b) (Ext.of_below hb) (fun a e hs => by have := h.lt.1 a e; omega) (fun z e hs => by have := h.lt.2 z e; omega)
theorem Cd.drewN (h : Cd w P Z) (n : Nat) : Cd (w.drewN n) P Z := h
end

theorem frame_New (w : World) {R : Ending → World → Prop}
    (hR : ∀ k z w', Cd w' (some ⟨k, 0, none⟩) (some z) → w.heap.size ≤ k → w.heap.size ≤ z → Below w.heap.size w w' → R (.returned (.pointer (some ⟨k, 0, none⟩))) w') :
    Calls Try.prog 27 #[] w R := by
  have HR := Lib.hid hR
  clear hR
  go_enter Try.func27, Try.ntmps27
  go_wp2_with fail
  refine (crc_New _).mono ?_
  obtain ⟨z, hz⟩ : ∃ z, w.heap.size = z := ⟨_, rfl⟩
  rw [hz]
  have HZ := Lib.hid hz
  clear hz
  rintro e w1 ⟨rfl, hb1, hs1⟩
  have hs1 : Sums w1 z false := hs1
  have hzl := sums_lt' hs1
  have hb1 : Below w.heap.size w w1 := hb1.mono (Nat.le_of_eq HZ.out)
  go_wp2
  exact HR.out _ z _ (.inr ⟨w1.heap.size, z, false, rfl, rfl, by omega, Blk.new _ _ _, sums_ext hs1 ((Ext.refl (fun _ => False) w1).alloc _) (fun h => h)⟩) hb1.size (Nat.le_of_eq HZ.out) (hb1.alloc hb1.size _)

theorem frame_sum (P : Option Addr) (Z : Option Nat) (s : ByteArray) (w : World) (h : Cd w P Z) (hs : s.size ≤ 9223372036854775806) {R : Ending → World → Prop}
    (hR : ∀ w', Cd w' P Z → Ext (fun b => Z = some b) w w' → R (.returned (.int .u64 ((crcSum s : Nat) : Int))) w') :
    Calls Try.prog 59 #[.pointer P, .string s] w R := by
  have hlt : crcSum s < 4294967296 := cpl_lt _
  have hwr : IntKind.u64.wrap ((crcSum s : Nat) : Int) = ((crcSum s : Nat) : Int) := by rw [IntKind.wrap_u64]; omega
  have HR := Lib.hid hR
  clear hR
  rcases h with ⟨rfl, rfl⟩ | ⟨k, z, m, rfl, rfl, hkz, hb, hsz⟩
  · go_enter Try.func59, Try.ntmps59
    go_wp2_with fail
    refine crc_Sum_nil _ _ hs ?_
    generalize crcSum s = x at *
    intro w1 hb1
    go_wp2
    exact HR.out _ (.inl ⟨rfl, rfl⟩) ((Ext.of_below hb1).mono (fun b hb e => absurd e (by omega)))
  · have c0 : w.cell? ⟨k, 0, none⟩ = some (.pointer (some ⟨z, 0, none⟩)) := (Blk.cell hb 0).trans rfl
    go_enter Try.func59, Try.ntmps59
    go_wp2_with fail
    refine crc_Sum _ _ _ _ hsz hs ?_
    generalize crcSum s = x at *
    intro w1 hs1 hx1
    go_wp2
    exact HR.out _ (.inr ⟨k, z, true, rfl, rfl, hkz, hb.ext hx1 (fun e => hkz e), hs1⟩) (hx1.mono (fun b _ e => by rw [e]))

theorem frame_version (v : Int) (w : World) : Calls Try.prog 52 #[.int .u8 v] w fun e w' => e = .returned (.bool (decide (v = 1 ∨ v = 2))) ∧ w = w' := by
  by_cases h1 : v = 1
  · subst h1
    rw [show decide ((1 : Int) = 1 ∨ (1 : Int) = 2) = true from rfl]
    go_enter Try.func52, Try.ntmps52
    go_wp2
    go_ret
    exact ⟨rfl, rfl⟩
  · have hb1 : (v == 1) = false := by simpa using h1
    by_cases h2 : v = 2
    · subst h2
      rw [show decide ((2 : Int) = 1 ∨ (2 : Int) = 2) = true from rfl]
      go_enter Try.func52, Try.ntmps52
      go_wp2
      go_ret
      exact ⟨rfl, rfl⟩
    · have hb2 : (v == 2) = false := by simpa using h2
      rw [decide_eq_false (by omega)]
      go_enter Try.func52, Try.ntmps52
      go_wp2
      go_ret
      exact ⟨rfl, rfl⟩

/-- How many bytes a frame has. -/
def roomR (n : Int) : Int := if n < 0 ∨ 65536 < n then 0 else 2 + 2 + ((encR n.toNat).size : Int) + n + 4
theorem frame_Room (n : Int) (w : World) : Calls Try.prog 30 #[.int .i64 n] w fun e w' => e = .returned (.int .i64 (roomR n)) ∧ w = w' := by
  unfold roomR
  by_cases h0 : n < 0
  · rw [if_pos (.inl h0)]
    go_enter Try.func30, Try.ntmps30
    go_wp2
    go_ret
    exact ⟨rfl, rfl⟩
  · by_cases h1 : 65536 < n
    · rw [if_pos (.inr h1)]
      go_enter Try.func30, Try.ntmps30
      go_wp2
      go_ret
      exact ⟨rfl, rfl⟩
    · rw [if_neg (by omega)]
      obtain ⟨k, rfl⟩ := Int.eq_ofNat_of_zero_le (show 0 ≤ n by omega)
      rw [Int.toNat_natCast]
      have hz := encR_size k
      obtain ⟨z, hzz⟩ : ∃ z, (encR k).size = z := ⟨_, rfl⟩
      rw [hzz] at hz ⊢
      have HZ := Lib.hid hzz
      clear hzz
      have hk : (k : Int) ≤ 65536 := by omega
      go_enter Try.func30, Try.ntmps30
      go_wp2_with fail
      refine (varint_Size k _ (by omega)).mono ?_
      rw [HZ.out]
      rintro e w' ⟨rfl, rfl⟩
      have hz' : (z : Int) ≤ 10 := by omega
      go_wp2
      go_ret
      exact ⟨ret_int (by omega), rfl⟩
theorem frame_Sends (w : World) : Calls Try.prog 38 #[] w fun e w' => e = .returned (.int .i64 65547) ∧ w = w' := by
  go_enter Try.func38, Try.ntmps38
  go_wp2_with fail
  refine (frame_Room 65536 _).mono ?_
  rw [show roomR 65536 = 65547 from by decide]
  rintro e w' ⟨rfl, rfl⟩
  go_wp2
  go_ret
  exact ⟨rfl, rfl⟩
end Go.Proofs.Ytkicaiecmipieaa
