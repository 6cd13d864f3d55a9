/- The sums of the program: the table, made when it is asked for first. -/
import Derived.Test.YtkicaiecmipieaaCore
import Derived.Test.YtkicaiecmipieaaCrcMath
import Derived.Defers
import Derived.Laws.LoneSync
import Derived.Laws.BitsLemmas
namespace Go.Proofs.Ytkicaiecmipieaa
open Go.RowKit

theorem disable (w : World) : (callFunc 113 #[]).run Try.prog w = .ok (.value (.tuple #[])) w := run_call_mark0 Try.func113 (by kernel_rfl) (by kernel_rfl) (by kernel_rfl) .disable (by kernel_rfl) w
theorem enable (w : World) : (callFunc 115 #[]).run Try.prog w = .ok (.value (.tuple #[])) w := run_call_mark0 Try.func115 (by kernel_rfl) (by kernel_rfl) (by kernel_rfl) .enable (by kernel_rfl) w
theorem acquire (a : Addr) (w : World) : (callFunc 116 #[.pointer (some a)]).run Try.prog w = .ok (.value (.tuple #[])) w := run_call_marked Try.func116 (by kernel_rfl) (by kernel_rfl) (by kernel_rfl) .acquire (by kernel_rfl) a w
theorem releaseMerge (a : Addr) (w : World) : (callFunc 118 #[.pointer (some a)]).run Try.prog w = .ok (.value (.tuple #[])) w := run_call_marked Try.func118 (by kernel_rfl) (by kernel_rfl) (by kernel_rfl) .releaseMerge (by kernel_rfl) a w

/-- Store(true), as a deferred call. -/
theorem store_deferred (a : Addr) (x : Value) (u : FrameMode) (w : World) (hc : w.cell? a = some x) (hz : w.frozen? a = false) :
    CallsD Try.prog 105 #[.pointer (some a), .bool true] u w fun e u' w' => u' = u ∧ (e = .returned (.tuple #[]) ∧ w' = w.drew.setCell a (.int .u32 1)) := by
  have hc' : w.drew.cell? a = some x := by go_simp
  have hz' : w.drew.frozen? a = false := by go_simp
  have hst := run_call_store (P := Try.prog) Try.func109 (by kernel_rfl) (by kernel_rfl) (by kernel_rfl) (by kernel_rfl) (k := .u32) (y := 1) hc' hz'
  go_enter_d Try.func105, Try.ntmps105
  go_wp2
  go_region_calls
  all_goals (go_end0; exact ⟨rfl, rfl⟩)
/-- Store(true). -/
theorem store_true (a : Addr) (x : Value) (w : World) (hc : w.cell? a = some x) (hz : w.frozen? a = false) :
    Calls Try.prog 105 #[.pointer (some a), .bool true] w fun e w' => e = .returned (.tuple #[]) ∧ w' = w.drew.setCell a (.int .u32 1) := by
  have hc' : w.drew.cell? a = some x := by go_simp
  have hz' : w.drew.frozen? a = false := by go_simp
  have hst := run_call_store (P := Try.prog) Try.func109 (by kernel_rfl) (by kernel_rfl) (by kernel_rfl) (by kernel_rfl) (k := .u32) (y := 1) hc' hz'
  go_enter Try.func105, Try.ntmps105
  go_wp2
  go_region_calls
  all_goals (go_end0; exact ⟨rfl, rfl⟩)
/-- Load. -/
theorem load_bool (a : Addr) (x : Int) (w : World) (h0 : w.cell? a = some (.int .u32 x)) {R : Ending → World → Prop} (hR : R (.returned (.bool (x != 0))) w) :
    Calls Try.prog 102 #[.pointer (some a)] w R := by
  have hl := run_call_load (P := Try.prog) Try.func106 (by kernel_rfl) (by kernel_rfl) (by kernel_rfl) .u32 (by kernel_rfl) h0
  go_enter Try.func102, Try.ntmps102
  go_wp2
  exact hR

set_option maxRecDepth 100000 in
/-- Unlock, as a deferred call, the lock held and nobody waiting. -/
theorem unlock_deferred (a : Addr) (u : FrameMode) (w : World) (hc : w.cell? a = some (.int .i32 1)) (hz : w.frozen? a = false) :
    CallsD Try.prog 108 #[.pointer (some a)] u w fun e u' w' => u' = u ∧ (e = .returned (.tuple #[]) ∧ w' = w.setCell a (.int .i32 0)) := by
  have hd := disable
  have he := enable
  have hr := releaseMerge
  have hadd := run_call_add (P := Try.prog) Try.func119 (by kernel_rfl) (by kernel_rfl) (by kernel_rfl) .i32 (by kernel_rfl) (y := -1) (s := 0) hc hz (by simp [go_sem]; rfl)
  have hcv := run_convert_to_unsafe (P := Try.prog) (src := 176) (dst := 165) Try.underlying176 Try.underlying165 (by kernel_rfl) hc
  have hcv2 := run_convert_to_unsafe (P := Try.prog) (src := 177) (dst := 165) Try.underlying177 Try.underlying165 (by kernel_rfl) hc
  go_enter_d Try.func108, Try.ntmps108
  go_wp2
  go_end0
  go_wp2
  go_end0
  exact ⟨rfl, rfl⟩
set_option maxRecDepth 100000 in
/-- Lock, the lock free. -/
theorem lock_free (a : Addr) (w : World) (hc : w.cell? a = some (.int .i32 0)) (hz : w.frozen? a = false) :
    Calls Try.prog 107 #[.pointer (some a)] w fun e w' => e = .returned (.tuple #[]) ∧ w' = w.setCell a (.int .i32 1) := by
  have hd := disable
  have he := enable
  have ha := acquire
  have hcas := run_call_cas_hit (P := Try.prog) Try.func114 (by kernel_rfl) (by kernel_rfl) (by kernel_rfl) .i32 (by kernel_rfl) (y := 1) hc hz
  have hc' : (w.setCell a (.int .i32 1)).cell? a = some (.int .i32 1) := World.cell?_setCell_same w a _ hc
  have hcv := run_convert_to_unsafe (P := Try.prog) (src := 176) (dst := 165) Try.underlying176 Try.underlying165 (by kernel_rfl) hc'
  have hcv2 := run_convert_to_unsafe (P := Try.prog) (src := 177) (dst := 165) Try.underlying177 Try.underlying165 (by kernel_rfl) hc'
  go_enter Try.func107, Try.ntmps107
  go_wp2
  first | go_end0 | (simp only [Exit.inBlock, Exit.then]; refine bodyPost_ret (results_none rfl _ _ _) rfl ?_) | refine bodyPost_ret (results_none rfl _ _ _) rfl ?_
  go_wp2
  go_end0
  exact ⟨rfl, rfl⟩

/-- The cells of sums. -/
def tblL (f : Nat → Int) : List Value := (List.range 256).map fun j => .int .u32 (f j)
theorem tblL_get (f : Nat → Int) (i : Nat) (h : i < 256) : (tblL f)[i]? = some (.int .u32 (f i)) := by simp [tblL, h]
theorem tblL_set (f : Nat → Int) (i : Nat) (x : Int) : (tblL f).set i (.int .u32 x) = tblL (fun j => if j = i then x else f j) := by
  apply List.ext_getElem?
  intro j
  simp only [tblL, List.getElem?_set, List.getElem?_map, List.getElem?_range, List.length_map, List.length_range]
  by_cases hj : i = j
  · subst hj
    by_cases h : i < 256 <;> simp [h]
  · by_cases h : j < 256 <;> simp [hj, h, Ne.symm hj]
def sumsCells (d st m : Int) (f : Nat → Int) : Array Value := (.int .u32 d :: .int .i32 st :: .int .u32 0 :: .int .u32 m :: tblL f).toArray
theorem sums_set0 (d st m x : Int) (f : Nat → Int) : (sumsCells d st m f).setIfInBounds 0 (.int .u32 x) = sumsCells x st m f := by simp [sumsCells]
theorem sums_set1 (d st m x : Int) (f : Nat → Int) : (sumsCells d st m f).setIfInBounds 1 (.int .i32 x) = sumsCells d x m f := by simp [sumsCells]
theorem sums_set3 (d st m x : Int) (f : Nat → Int) : (sumsCells d st m f).setIfInBounds 3 (.int .u32 x) = sumsCells d st x f := by simp [sumsCells]
theorem sums_setT (d st m x : Int) (f : Nat → Int) (i : Nat) : (sumsCells d st m f).setIfInBounds (4 + i) (.int .u32 x) = sumsCells d st m (fun j => if j = i then x else f j) := by
  rw [Nat.add_comm]; simp [sumsCells, tblL_set]
theorem sums_get0 (d st m : Int) (f : Nat → Int) : (sumsCells d st m f)[0]? = some (.int .u32 d) := by simp [sumsCells]
theorem sums_get1 (d st m : Int) (f : Nat → Int) : (sumsCells d st m f)[1]? = some (.int .i32 st) := by simp [sumsCells]
theorem sums_get3 (d st m : Int) (f : Nat → Int) : (sumsCells d st m f)[3]? = some (.int .u32 m) := by simp [sumsCells]
theorem sums_getT (d st m : Int) (f : Nat → Int) (i : Nat) (h : i < 256) : (sumsCells d st m f)[4 + i]? = some (.int .u32 (f i)) := by
  rw [Nat.add_comm]; simp [sumsCells, tblL_get f i h]
attribute [irreducible] tblL sumsCells
/-- Sums in memory. -/
def SumsB (w : World) (g : Nat) (d st m : Int) (f : Nat → Int) : Prop := Blk w g 151 (sumsCells d st m f)
end Go.Proofs.Ytkicaiecmipieaa
