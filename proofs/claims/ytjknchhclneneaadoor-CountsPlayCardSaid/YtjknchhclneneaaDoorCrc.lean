/- The sums of the program: the table, made when it is asked for first. -/
import Derived.Test.YtjknchhclneneaaDoorCore
import Derived.Test.YtjknchhclneneaaDoorCrcMath
import Derived.Defers
import Derived.Laws.LoneSync
import Derived.Laws.BitsLemmas
import Derived.Deep.RegionWith
import Derived.Test.YtjknchhclneneaaDoorMem
namespace Go.Proofs.YtjknchhclneneaaDoor
open Go.RowKit

theorem disable (w : World) : (callFunc 72 #[]).run Tryd.prog w = .ok (.value (.tuple #[])) w := run_call_mark0 Tryd.func72 (by kernel_rfl) (by kernel_rfl) (by kernel_rfl) .disable (by kernel_rfl) w
theorem enable (w : World) : (callFunc 74 #[]).run Tryd.prog w = .ok (.value (.tuple #[])) w := run_call_mark0 Tryd.func74 (by kernel_rfl) (by kernel_rfl) (by kernel_rfl) .enable (by kernel_rfl) w
theorem acquire (a : Addr) (w : World) : (callFunc 75 #[.pointer (some a)]).run Tryd.prog w = .ok (.value (.tuple #[])) w := run_call_marked Tryd.func75 (by kernel_rfl) (by kernel_rfl) (by kernel_rfl) .acquire (by kernel_rfl) a w
theorem releaseMerge (a : Addr) (w : World) : (callFunc 77 #[.pointer (some a)]).run Tryd.prog w = .ok (.value (.tuple #[])) w := run_call_marked Tryd.func77 (by kernel_rfl) (by kernel_rfl) (by kernel_rfl) .releaseMerge (by kernel_rfl) a w

/-- Store(true), as a deferred call. -/
theorem store_deferred (a : Addr) (x : Value) (u : FrameMode) (w : World) (hc : w.cell? a = some x) (hz : w.frozen? a = false) :
    CallsD Tryd.prog 44 #[.pointer (some a), .bool true] u w fun e u' w' => u' = u ∧ (e = .returned (.tuple #[]) ∧ w' = w.drew.setCell a (.int .u32 1)) := by
  have hc' : w.drew.cell? a = some x := by go_simp
  have hz' : w.drew.frozen? a = false := by go_simp
  have hst := run_call_store (P := Tryd.prog) Tryd.func62 (by kernel_rfl) (by kernel_rfl) (by kernel_rfl) (by kernel_rfl) (k := .u32) (y := 1) hc' hz'
  go_enter_d Tryd.func44, Tryd.ntmps44
  go_wp2
  go_region_calls
  all_goals (go_end0; exact ⟨rfl, rfl⟩)
/-- Store(true). -/
theorem store_true (a : Addr) (x : Value) (w : World) (hc : w.cell? a = some x) (hz : w.frozen? a = false) :
    Calls Tryd.prog 44 #[.pointer (some a), .bool true] w fun e w' => e = .returned (.tuple #[]) ∧ w' = w.drew.setCell a (.int .u32 1) := by
  have hc' : w.drew.cell? a = some x := by go_simp
  have hz' : w.drew.frozen? a = false := by go_simp
  have hst := run_call_store (P := Tryd.prog) Tryd.func62 (by kernel_rfl) (by kernel_rfl) (by kernel_rfl) (by kernel_rfl) (k := .u32) (y := 1) hc' hz'
  go_enter Tryd.func44, Tryd.ntmps44
  go_wp2
  go_region_calls
  all_goals (go_end0; exact ⟨rfl, rfl⟩)
/-- Load. -/
theorem load_bool (a : Addr) (x : Int) (w : World) (h0 : w.cell? a = some (.int .u32 x)) {R : Ending → World → Prop} (hR : R (.returned (.bool (x != 0))) w) :
    Calls Tryd.prog 32 #[.pointer (some a)] w R := by
  have hl := run_call_load (P := Tryd.prog) Tryd.func41 (by kernel_rfl) (by kernel_rfl) (by kernel_rfl) .u32 (by kernel_rfl) h0
  go_enter Tryd.func32, Tryd.ntmps32
  go_wp2
  exact hR

set_option maxRecDepth 100000 in
/-- Unlock, as a deferred call, the lock held and nobody waiting. -/
theorem unlock_deferred (a : Addr) (u : FrameMode) (w : World) (hc : w.cell? a = some (.int .i32 1)) (hz : w.frozen? a = false) :
    CallsD Tryd.prog 43 #[.pointer (some a)] u w fun e u' w' => u' = u ∧ (e = .returned (.tuple #[]) ∧ w' = w.setCell a (.int .i32 0)) := by
  have hd := disable
  have he := enable
  have hr := releaseMerge
  have hadd := run_call_add (P := Tryd.prog) Tryd.func78 (by kernel_rfl) (by kernel_rfl) (by kernel_rfl) .i32 (by kernel_rfl) (y := -1) (s := 0) hc hz (by simp [go_sem]; rfl)
  have hcv := run_convert_to_unsafe (P := Tryd.prog) (src := 109) (dst := 122) Tryd.underlying109 Tryd.underlying122 (by kernel_rfl) hc
  have hcv2 := run_convert_to_unsafe (P := Tryd.prog) (src := 118) (dst := 122) Tryd.underlying118 Tryd.underlying122 (by kernel_rfl) hc
  go_enter_d Tryd.func43, Tryd.ntmps43
  go_wp2
  go_end0
  go_wp2
  go_end0
  exact ⟨rfl, rfl⟩
set_option maxRecDepth 100000 in
/-- Lock, the lock free. -/
theorem lock_free (a : Addr) (w : World) (hc : w.cell? a = some (.int .i32 0)) (hz : w.frozen? a = false) :
    Calls Tryd.prog 42 #[.pointer (some a)] w fun e w' => e = .returned (.tuple #[]) ∧ w' = w.setCell a (.int .i32 1) := by
  have hd := disable
  have he := enable
  have ha := acquire
  have hcas := run_call_cas_hit (P := Tryd.prog) Tryd.func73 (by kernel_rfl) (by kernel_rfl) (by kernel_rfl) .i32 (by kernel_rfl) (y := 1) hc hz
  have hc' : (w.setCell a (.int .i32 1)).cell? a = some (.int .i32 1) := World.cell?_setCell_same w a _ hc
  have hcv := run_convert_to_unsafe (P := Tryd.prog) (src := 109) (dst := 122) Tryd.underlying109 Tryd.underlying122 (by kernel_rfl) hc'
  have hcv2 := run_convert_to_unsafe (P := Tryd.prog) (src := 118) (dst := 122) Tryd.underlying118 Tryd.underlying122 (by kernel_rfl) hc'
  go_enter Tryd.func42, Tryd.ntmps42
  go_wp2
  first | go_end0 | (simp only [Exit.inBlock, Exit.then]; refine bodyPost_ret (results_none rfl _ _ _) rfl ?_) | refine bodyPost_ret (results_none rfl _ _ _) rfl ?_
  go_wp2
  go_end0
  exact ⟨rfl, rfl⟩

/-- The cells of sums. -/
def tblL (f : Nat → Int) : List Value := (List.range 256).map fun j => .int .u32 (f j)
theorem tblL_get (f : Nat → Int) (i : Nat) (h : i < 256) : (tblL f)[i]? = some (.int .u32 (f i)) := by simp [tblL, h]
theorem tblL_set (f : Nat → Int) (i : Nat) (x : Int) : (tblL f).set i (.int .u32 x) = tblL (fun j => if j = i then x else f j) := by
  apply List.ext_getElem?
  intro j
  simp only [tblL, List.getElem?_set, List.getElem?_map, List.getElem?_range, List.length_map, List.length_range]
  by_cases hj : i = j
  · subst hj
    by_cases h : i < 256 <;> simp [h]
  · by_cases h : j < 256 <;> simp [hj, h, Ne.symm hj]
def sumsCells (d st m : Int) (f : Nat → Int) : Array Value := (.int .u32 d :: .int .i32 st :: .int .u32 0 :: .int .u32 m :: tblL f).toArray
theorem sums_set0 (d st m x : Int) (f : Nat → Int) : (sumsCells d st m f).setIfInBounds 0 (.int .u32 x) = sumsCells x st m f := by simp [sumsCells]
theorem sums_set1 (d st m x : Int) (f : Nat → Int) : (sumsCells d st m f).setIfInBounds 1 (.int .i32 x) = sumsCells d x m f := by simp [sumsCells]
theorem sums_set3 (d st m x : Int) (f : Nat → Int) : (sumsCells d st m f).setIfInBounds 3 (.int .u32 x) = sumsCells d st x f := by simp [sumsCells]
theorem sums_setT (d st m x : Int) (f : Nat → Int) (i : Nat) : (sumsCells d st m f).setIfInBounds (4 + i) (.int .u32 x) = sumsCells d st m (fun j => if j = i then x else f j) := by
  rw [Nat.add_comm]; simp [sumsCells, tblL_set]
theorem sums_get0 (d st m : Int) (f : Nat → Int) : (sumsCells d st m f)[0]? = some (.int .u32 d) := by simp [sumsCells]
theorem sums_get1 (d st m : Int) (f : Nat → Int) : (sumsCells d st m f)[1]? = some (.int .i32 st) := by simp [sumsCells]
theorem sums_get3 (d st m : Int) (f : Nat → Int) : (sumsCells d st m f)[3]? = some (.int .u32 m) := by simp [sumsCells]
theorem sums_getT (d st m : Int) (f : Nat → Int) (i : Nat) (h : i < 256) : (sumsCells d st m f)[4 + i]? = some (.int .u32 (f i)) := by
  rw [Nat.add_comm]; simp [sumsCells, tblL_get f i h]
attribute [irreducible] tblL sumsCells
end Go.Proofs.YtjknchhclneneaaDoor
/- The table's bytes: halve, the document's sum; the table made. -/
namespace Go.Proofs.YtjknchhclneneaaDoor
open Go.RowKit

theorem bits_xor32 (a b : Nat) (ha : a < 4294967296) (hb : b < 4294967296) : bits .xor .u32 (a : Int) (b : Int) = ((a ^^^ b : Nat) : Int) := by
  have hx : a ^^^ b < 4294967296 := Nat.xor_lt_two_pow (n := 32) ha hb
  simp only [bits, BitVec.ofInt_natCast, BitVec.toNat_xor, BitVec.toNat_ofNat]
  rw [show IntKind.u32.bits = 32 from rfl, Nat.mod_eq_of_lt (a := a) (by omega), Nat.mod_eq_of_lt (a := b) (by omega), IntKind.wrap_u32]
  omega
theorem bits_xor8 (a b : Nat) (ha : a < 256) (hb : b < 256) : bits .xor .u8 (a : Int) (b : Int) = ((a ^^^ b : Nat) : Int) := by
  have hx : a ^^^ b < 256 := Nat.xor_lt_two_pow (n := 8) ha hb
  simp only [bits, BitVec.ofInt_natCast, BitVec.toNat_xor, BitVec.toNat_ofNat]
  rw [show IntKind.u8.bits = 8 from rfl, Nat.mod_eq_of_lt (a := a) (by omega), Nat.mod_eq_of_lt (a := b) (by omega), IntKind.wrap_u8]
  omega
theorem wraps_u32 (n : Int) (h₀ : 0 ≤ n) (h₁ : n < 2 ^ 32) : IntKind.u32.wrap n = n := by rw [IntKind.wrap_u32]; omega
theorem bits_low (m : Nat) (h : m < 4294967296) : bits .and .u32 (m : Int) 1 = (m : Int) % 2 := bits_mask .u32 32 (by decide) wraps_u32 1 (by decide) m (by omega) (by omega)
theorem half_odd (m : Nat) (h : m < 4294967296) (ho : (m : Int) % 2 = 1) : bits .xor .u32 ((m : Int) / 2) 3988292384 = ((half1 m : Nat) : Int) := by
  have e : (m : Int) / 2 = ((m / 2 : Nat) : Int) := by omega
  rw [e]
  unfold half1
  rw [if_pos (by omega)]
  exact bits_xor32 (m / 2) 3988292384 (by omega) (by decide)
theorem half_even (m : Nat) (ho : ¬ (m : Int) % 2 = 1) : (m : Int) / 2 = ((half1 m : Nat) : Int) := by
  unfold half1
  rw [if_neg (by omega)]
  omega

def HalveRel (W : World) (n0 : Nat) (n i : Value) (w : World) : Prop :=
  ∃ k m : Nat, k ≤ 8 ∧ i = .int .i64 (k : Int) ∧ m = halfN k n0 ∧ m < 4294967296 ∧ n = .int .u32 (m : Int) ∧ w = W

def RSumRel (W : World) (s : ByteArray) (n i : Value) (w : World) : Prop :=
  ∃ k m : Nat, k ≤ s.size ∧ i = .int .i64 (k : Int) ∧ m = crcFold 4294967295 (s.data.toList.take k) ∧ m < 4294967296 ∧ n = .int .u32 (m : Int) ∧ ∃ j, w = W.drewN j
theorem crcFold_snoc (n : Nat) (l : List UInt8) (k : Nat) (h : k < l.length) : crcFold n (l.take (k + 1)) = crcPut (crcFold n (l.take k)) (l.getD k 0).toNat := by
  rw [List.take_succ_eq_append_getElem h, crcFold_append, List.getD_eq_getElem?_getD, List.getElem?_eq_getElem h]
  rfl
theorem bt_u8 (s : ByteArray) (i : Nat) : bt s i = (((s.data.toList.getD i 0).toNat : Nat) : Int) := rfl
theorem sums_congr (d st m : Int) (f f' : Nat → Int) (h : ∀ j, j < 256 → f j = f' j) : sumsCells d st m f = sumsCells d st m f' := by
  have e : tblL f = tblL f' := by
    unfold tblL
    apply List.map_congr_left
    intro j hj
    rw [h j (List.mem_range.1 hj)]
  unfold sumsCells
  rw [e]
attribute [local irreducible] halve halfN crcPut crcFold crcSum
end Go.Proofs.YtjknchhclneneaaDoor
/- The once: not yet done; done. -/
namespace Go.Proofs.YtjknchhclneneaaDoor
open Go.RowKit
attribute [local irreducible] halve halfN crcPut crcFold crcSum

def made (i : Nat) : Int := (halve i : Int)
end Go.Proofs.YtjknchhclneneaaDoor
/- The sum of texts. -/
namespace Go.Proofs.YtjknchhclneneaaDoor
open Go.RowKit
theorem crcFold_take0 (n : Nat) (l : List UInt8) : n = crcFold n (l.take 0) := by rw [List.take_zero]; rfl
theorem crcMore_one (n : Nat) (t : ByteArray) : crcMore n [t] = cpl (crcFold (cpl n) t.data.toList) := rfl
attribute [local irreducible] halve halfN crcPut crcFold crcSum

theorem cpl_bits (n : Nat) (h : n < 4294967296) : bits .xor .u32 IntKind.u32.max (n : Int) = ((cpl n : Nat) : Int) := by
  have e : IntKind.u32.max = ((4294967295 : Nat) : Int) := by decide
  rw [e, bits_xor32 _ _ (by decide) h]
  congr 1
  apply Nat.eq_of_testBit_eq
  intro i
  rw [Nat.testBit_xor]
  have h1 : (4294967295 : Nat) = 2 ^ 32 - 1 := by decide
  have h2 : cpl n = 2 ^ 32 - (n + 1) := by unfold cpl; omega
  rw [h2, Nat.testBit_two_pow_sub_succ (by omega), h1, Nat.testBit_two_pow_sub_one]
  by_cases hi : i < 32
  · simp [hi]
  · simp only [hi, decide_false, Bool.false_and, Bool.false_bne]
    exact Nat.testBit_lt_two_pow (Nat.lt_of_lt_of_le (by omega : n < 2 ^ 32) (Nat.pow_le_pow_right (by decide) (by omega)))
theorem step_low (m : Nat) (c : UInt8) : bits .xor .u8 ((m : Int) % 256) (c.toNat : Int) = ((m % 256 ^^^ c.toNat : Nat) : Int) := by
  have := c.toNat_lt
  have e : (m : Int) % 256 = ((m % 256 : Nat) : Int) := by omega
  rw [e]
  exact bits_xor8 _ _ (by omega) (by omega)
theorem low_lt (m : Nat) (c : UInt8) : m % 256 ^^^ c.toNat < 256 := Nat.xor_lt_two_pow (n := 8) (by omega) (by have := c.toNat_lt; omega)
theorem step_all (m : Nat) (c : UInt8) (hm : m < 4294967296) : bits .xor .u32 ((halve (m % 256 ^^^ c.toNat) : Nat) : Int) ((m : Int) / 256) = ((crcPut m c.toNat : Nat) : Int) := by
  have := c.toNat_lt
  have hl := low_lt m c
  have e : (m : Int) / 256 = ((m / 256 : Nat) : Int) := by omega
  rw [e, bits_xor32 _ _ (halve_lt (by omega)) (by omega), crcPut_table m c.toNat (by omega)]

def MoreRel (W : World) (n : Nat) (l : List ByteArray) (s i : Value) (w : World) : Prop :=
  ∃ k m : Nat, k ≤ l.length ∧ i = .int .i64 (k : Int) ∧ m = (l.take k).foldl (fun s t => crcFold s t.data.toList) n ∧ m < 4294967296 ∧ s = .int .u32 (m : Int) ∧ ∃ j, w = W.drewN j
def MoreInRel (W : World) (n : Nat) (t : ByteArray) (s i : Value) (w : World) : Prop :=
  ∃ k m : Nat, k ≤ t.size ∧ i = .int .i64 (k : Int) ∧ m = crcFold n (t.data.toList.take k) ∧ m < 4294967296 ∧ s = .int .u32 (m : Int) ∧ ∃ j, w = W.drewN j

end Go.Proofs.YtjknchhclneneaaDoor
