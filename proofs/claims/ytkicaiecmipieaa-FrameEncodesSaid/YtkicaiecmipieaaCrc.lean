/- The sums of the program: the table, made when it is asked for first. -/
import Derived.Test.YtkicaiecmipieaaCore
import Derived.Test.YtkicaiecmipieaaCrcMath
import Derived.Defers
import Derived.Laws.LoneSync
import Derived.Laws.BitsLemmas
import Derived.Deep.RegionWith
import Derived.Test.YtkicaiecmipieaaMem
namespace Go.Proofs.Ytkicaiecmipieaa
open Go.RowKit

theorem disable (w : World) : (callFunc 113 #[]).run Try.prog w = .ok (.value (.tuple #[])) w := run_call_mark0 Try.func113 (by kernel_rfl) (by kernel_rfl) (by kernel_rfl) .disable (by kernel_rfl) w
theorem enable (w : World) : (callFunc 115 #[]).run Try.prog w = .ok (.value (.tuple #[])) w := run_call_mark0 Try.func115 (by kernel_rfl) (by kernel_rfl) (by kernel_rfl) .enable (by kernel_rfl) w
theorem acquire (a : Addr) (w : World) : (callFunc 116 #[.pointer (some a)]).run Try.prog w = .ok (.value (.tuple #[])) w := run_call_marked Try.func116 (by kernel_rfl) (by kernel_rfl) (by kernel_rfl) .acquire (by kernel_rfl) a w
theorem releaseMerge (a : Addr) (w : World) : (callFunc 118 #[.pointer (some a)]).run Try.prog w = .ok (.value (.tuple #[])) w := run_call_marked Try.func118 (by kernel_rfl) (by kernel_rfl) (by kernel_rfl) .releaseMerge (by kernel_rfl) a w

/-- Store(true), as a deferred call. -/
theorem store_deferred (a : Addr) (x : Value) (u : FrameMode) (w : World) (hc : w.cell? a = some x) (hz : w.frozen? a = false) :
    CallsD Try.prog 105 #[.pointer (some a), .bool true] u w fun e u' w' => u' = u ∧ (e = .returned (.tuple #[]) ∧ w' = w.drew.setCell a (.int .u32 1)) := by
  have hc' : w.drew.cell? a = some x := by go_simp
  have hz' : w.drew.frozen? a = false := by go_simp
  have hst := run_call_store (P := Try.prog) Try.func109 (by kernel_rfl) (by kernel_rfl) (by kernel_rfl) (by kernel_rfl) (k := .u32) (y := 1) hc' hz'
  go_enter_d Try.func105, Try.ntmps105
  go_wp2
  go_region_calls
  all_goals (go_end0; exact ⟨rfl, rfl⟩)
/-- Store(true). -/
theorem store_true (a : Addr) (x : Value) (w : World) (hc : w.cell? a = some x) (hz : w.frozen? a = false) :
    Calls Try.prog 105 #[.pointer (some a), .bool true] w fun e w' => e = .returned (.tuple #[]) ∧ w' = w.drew.setCell a (.int .u32 1) := by
  have hc' : w.drew.cell? a = some x := by go_simp
  have hz' : w.drew.frozen? a = false := by go_simp
  have hst := run_call_store (P := Try.prog) Try.func109 (by kernel_rfl) (by kernel_rfl) (by kernel_rfl) (by kernel_rfl) (k := .u32) (y := 1) hc' hz'
  go_enter Try.func105, Try.ntmps105
  go_wp2
  go_region_calls
  all_goals (go_end0; exact ⟨rfl, rfl⟩)
/-- Load. -/
theorem load_bool (a : Addr) (x : Int) (w : World) (h0 : w.cell? a = some (.int .u32 x)) {R : Ending → World → Prop} (hR : R (.returned (.bool (x != 0))) w) :
    Calls Try.prog 102 #[.pointer (some a)] w R := by
  have hl := run_call_load (P := Try.prog) Try.func106 (by kernel_rfl) (by kernel_rfl) (by kernel_rfl) .u32 (by kernel_rfl) h0
  go_enter Try.func102, Try.ntmps102
  go_wp2
  exact hR

set_option maxRecDepth 100000 in
/-- Unlock, as a deferred call, the lock held and nobody waiting. -/
theorem unlock_deferred (a : Addr) (u : FrameMode) (w : World) (hc : w.cell? a = some (.int .i32 1)) (hz : w.frozen? a = false) :
    CallsD Try.prog 108 #[.pointer (some a)] u w fun e u' w' => u' = u ∧ (e = .returned (.tuple #[]) ∧ w' = w.setCell a (.int .i32 0)) := by
  have hd := disable
  have he := enable
  have hr := releaseMerge
  have hadd := run_call_add (P := Try.prog) Try.func119 (by kernel_rfl) (by kernel_rfl) (by kernel_rfl) .i32 (by kernel_rfl) (y := -1) (s := 0) hc hz (by simp [go_sem]; rfl)
  have hcv := run_convert_to_unsafe (P := Try.prog) (src := 176) (dst := 165) Try.underlying176 Try.underlying165 (by kernel_rfl) hc
  have hcv2 := run_convert_to_unsafe (P := Try.prog) (src := 177) (dst := 165) Try.underlying177 Try.underlying165 (by kernel_rfl) hc
  go_enter_d Try.func108, Try.ntmps108
  go_wp2
  go_end0
  go_wp2
  go_end0
  exact ⟨rfl, rfl⟩
set_option maxRecDepth 100000 in
/-- Lock, the lock free. -/
theorem lock_free (a : Addr) (w : World) (hc : w.cell? a = some (.int .i32 0)) (hz : w.frozen? a = false) :
    Calls Try.prog 107 #[.pointer (some a)] w fun e w' => e = .returned (.tuple #[]) ∧ w' = w.setCell a (.int .i32 1) := by
  have hd := disable
  have he := enable
  have ha := acquire
  have hcas := run_call_cas_hit (P := Try.prog) Try.func114 (by kernel_rfl) (by kernel_rfl) (by kernel_rfl) .i32 (by kernel_rfl) (y := 1) hc hz
  have hc' : (w.setCell a (.int .i32 1)).cell? a = some (.int .i32 1) := World.cell?_setCell_same w a _ hc
  have hcv := run_convert_to_unsafe (P := Try.prog) (src := 176) (dst := 165) Try.underlying176 Try.underlying165 (by kernel_rfl) hc'
  have hcv2 := run_convert_to_unsafe (P := Try.prog) (src := 177) (dst := 165) Try.underlying177 Try.underlying165 (by kernel_rfl) hc'
  go_enter Try.func107, Try.ntmps107
  go_wp2
  first | go_end0 | (simp only [Exit.inBlock, Exit.then]; refine bodyPost_ret (results_none rfl _ _ _) rfl ?_) | refine bodyPost_ret (results_none rfl _ _ _) rfl ?_
  go_wp2
  go_end0
  exact ⟨rfl, rfl⟩

/-- The cells of sums. -/
def tblL (f : Nat → Int) : List Value := (List.range 256).map fun j => .int .u32 (f j)
theorem tblL_get (f : Nat → Int) (i : Nat) (h : i < 256) : (tblL f)[i]? = some (.int .u32 (f i)) := by simp [tblL, h]
theorem tblL_set (f : Nat → Int) (i : Nat) (x : Int) : (tblL f).set i (.int .u32 x) = tblL (fun j => if j = i then x else f j) := by
  apply List.ext_getElem?
  intro j
  simp only [tblL, List.getElem?_set, List.getElem?_map, List.getElem?_range, List.length_map, List.length_range]
  by_cases hj : i = j
  · subst hj
    by_cases h : i < 256 <;> simp [h]
  · by_cases h : j < 256 <;> simp [hj, h, Ne.symm hj]
def sumsCells (d st m : Int) (f : Nat → Int) : Array Value := (.int .u32 d :: .int .i32 st :: .int .u32 0 :: .int .u32 m :: tblL f).toArray
theorem sums_set0 (d st m x : Int) (f : Nat → Int) : (sumsCells d st m f).setIfInBounds 0 (.int .u32 x) = sumsCells x st m f := by simp [sumsCells]
theorem sums_set1 (d st m x : Int) (f : Nat → Int) : (sumsCells d st m f).setIfInBounds 1 (.int .i32 x) = sumsCells d x m f := by simp [sumsCells]
theorem sums_set3 (d st m x : Int) (f : Nat → Int) : (sumsCells d st m f).setIfInBounds 3 (.int .u32 x) = sumsCells d st x f := by simp [sumsCells]
theorem sums_setT (d st m x : Int) (f : Nat → Int) (i : Nat) : (sumsCells d st m f).setIfInBounds (4 + i) (.int .u32 x) = sumsCells d st m (fun j => if j = i then x else f j) := by
  rw [Nat.add_comm]; simp [sumsCells, tblL_set]
theorem sums_get0 (d st m : Int) (f : Nat → Int) : (sumsCells d st m f)[0]? = some (.int .u32 d) := by simp [sumsCells]
theorem sums_get1 (d st m : Int) (f : Nat → Int) : (sumsCells d st m f)[1]? = some (.int .i32 st) := by simp [sumsCells]
theorem sums_get3 (d st m : Int) (f : Nat → Int) : (sumsCells d st m f)[3]? = some (.int .u32 m) := by simp [sumsCells]
theorem sums_getT (d st m : Int) (f : Nat → Int) (i : Nat) (h : i < 256) : (sumsCells d st m f)[4 + i]? = some (.int .u32 (f i)) := by
  rw [Nat.add_comm]; simp [sumsCells, tblL_get f i h]
attribute [irreducible] tblL sumsCells
/-- Sums in memory. -/
def SumsB (w : World) (g : Nat) (d st m : Int) (f : Nat → Int) : Prop := Blk w g 151 (sumsCells d st m f)
end Go.Proofs.Ytkicaiecmipieaa
/- The table's bytes: halve, the document's sum; the table made. -/
namespace Go.Proofs.Ytkicaiecmipieaa
open Go.RowKit

theorem bits_xor32 (a b : Nat) (ha : a < 4294967296) (hb : b < 4294967296) : bits .xor .u32 (a : Int) (b : Int) = ((a ^^^ b : Nat) : Int) := by
  have hx : a ^^^ b < 4294967296 := Nat.xor_lt_two_pow (n := 32) ha hb
  simp only [bits, BitVec.ofInt_natCast, BitVec.toNat_xor, BitVec.toNat_ofNat]
  rw [show IntKind.u32.bits = 32 from rfl, Nat.mod_eq_of_lt (a := a) (by omega), Nat.mod_eq_of_lt (a := b) (by omega), IntKind.wrap_u32]
  omega
theorem bits_xor8 (a b : Nat) (ha : a < 256) (hb : b < 256) : bits .xor .u8 (a : Int) (b : Int) = ((a ^^^ b : Nat) : Int) := by
  have hx : a ^^^ b < 256 := Nat.xor_lt_two_pow (n := 8) ha hb
  simp only [bits, BitVec.ofInt_natCast, BitVec.toNat_xor, BitVec.toNat_ofNat]
  rw [show IntKind.u8.bits = 8 from rfl, Nat.mod_eq_of_lt (a := a) (by omega), Nat.mod_eq_of_lt (a := b) (by omega), IntKind.wrap_u8]
  omega
theorem wraps_u32 (n : Int) (h₀ : 0 ≤ n) (h₁ : n < 2 ^ 32) : IntKind.u32.wrap n = n := by rw [IntKind.wrap_u32]; omega
theorem bits_low (m : Nat) (h : m < 4294967296) : bits .and .u32 (m : Int) 1 = (m : Int) % 2 := bits_mask .u32 32 (by decide) wraps_u32 1 (by decide) m (by omega) (by omega)
theorem half_odd (m : Nat) (h : m < 4294967296) (ho : (m : Int) % 2 = 1) : bits .xor .u32 ((m : Int) / 2) 3988292384 = ((half1 m : Nat) : Int) := by
  have e : (m : Int) / 2 = ((m / 2 : Nat) : Int) := by omega
  rw [e]
  unfold half1
  rw [if_pos (by omega)]
  exact bits_xor32 (m / 2) 3988292384 (by omega) (by decide)
theorem half_even (m : Nat) (ho : ¬ (m : Int) % 2 = 1) : (m : Int) / 2 = ((half1 m : Nat) : Int) := by
  unfold half1
  rw [if_neg (by omega)]
  omega

def HalveRel (W : World) (n0 : Nat) (n i : Value) (w : World) : Prop :=
  ∃ k m : Nat, k ≤ 8 ∧ i = .int .i64 (k : Int) ∧ m = halfN k n0 ∧ m < 4294967296 ∧ n = .int .u32 (m : Int) ∧ w = W

theorem crc_halve (n : Nat) (w : World) (h : n < 4294967296) : Calls Try.prog 104 #[.int .u32 (n : Int)] w fun e w' => e = .returned (.int .u32 (halve n)) ∧ w = w' := by
  go_enter Try.func104, Try.ntmps104
  go_wp2_with fail
  go_loopw [0, 4] (HalveRel w n) (fun _ i _ => 8 - (intOf i).toNat)
  case atStart => exact ⟨0, n, by decide, rfl, rfl, h, rfl, rfl⟩
  case round =>
    obtain ⟨k, m, hk, rfl, hm, hm1, rfl, rfl⟩ := hrel
    have hkk : (k : Int) < 8 ∨ k = 8 := by omega
    rcases hkk with hk8 | rfl
    · have h1 := bits_low m hm1
      have hm0 : (0 : Int) ≤ (m : Int) := Int.natCast_nonneg _
      have hm2 : (m : Int) < 4294967296 := by omega
      have hk0 : (0 : Int) ≤ (k : Int) := Int.natCast_nonneg _
      have HM := Lib.hid hm
      clear hm
      by_cases ho : (m : Int) % 2 = 1
      · have h2 := half_odd m hm1 ho
        have hb : ((m : Int) % 2 == 1) = true := by simpa using ho
        clear ho
        go_wp2
        all_goals exact ⟨⟨k + 1, half1 m, by omega, rfl, by rw [HM.out]; rfl, half1_lt hm1, rfl, rfl⟩, by simp [intOf]; omega⟩
      · have h2 := half_even m ho
        have hb : ((m : Int) % 2 == 1) = false := by simpa using ho
        clear ho
        go_wp2
        all_goals exact ⟨⟨k + 1, half1 m, by omega, rfl, by rw [HM.out]; rfl, half1_lt hm1, rfl, rfl⟩, by simp [intOf]; omega⟩
    · go_wp2
      all_goals (first | go_ret | skip)
      all_goals exact ⟨by rw [hm]; rfl, rfl⟩
theorem ref05_Put (n : Nat) (b : UInt8) (w : World) (h : n < 4294967296) : Calls Try.prog 80 #[.int .u32 (n : Int), .int .u8 (b.toNat : Int)] w fun e w' => e = .returned (.int .u32 (crcPut n b.toNat)) ∧ w = w' := by
  have hb := b.toNat_lt
  have h0 : bits .xor .u32 (n : Int) (b.toNat : Int) = ((n ^^^ b.toNat : Nat) : Int) := bits_xor32 _ _ h (by omega)
  have h1 : ((b.toNat : Int) % 4294967296) = b.toNat := Int.emod_eq_of_lt (by omega) (by omega)
  have hx : n ^^^ b.toNat < 4294967296 := Nat.xor_lt_two_pow (n := 32) h (by omega)
  obtain ⟨x, hxx⟩ : ∃ x, n ^^^ b.toNat = x := ⟨_, rfl⟩
  rw [show crcPut n b.toNat = halfN 8 x from by rw [← hxx]; rfl]
  rw [hxx] at h0 hx
  clear hxx
  go_enter Try.func80, Try.ntmps80
  go_wp2_with fail
  clear h1
  go_loopw [0, 5] (HalveRel w x) (fun _ i _ => 8 - (intOf i).toNat)
  case atStart => exact ⟨0, x, by decide, rfl, rfl, hx, rfl, rfl⟩
  case round =>
    obtain ⟨k, m, hk, rfl, hm, hm1, rfl, rfl⟩ := hrel
    have hkk : (k : Int) < 8 ∨ k = 8 := by omega
    rcases hkk with hk8 | rfl
    · have h1 := bits_low m hm1
      have hm0 : (0 : Int) ≤ (m : Int) := Int.natCast_nonneg _
      have hm2 : (m : Int) < 4294967296 := by omega
      have hk0 : (0 : Int) ≤ (k : Int) := Int.natCast_nonneg _
      have HM := Lib.hid hm
      clear hm
      by_cases ho : (m : Int) % 2 = 1
      · have h2 := half_odd m hm1 ho
        have hb : ((m : Int) % 2 == 1) = true := by simpa using ho
        clear ho
        go_wp2
        all_goals exact ⟨⟨k + 1, half1 m, by omega, rfl, by rw [HM.out]; rfl, half1_lt hm1, rfl, rfl⟩, by simp [intOf]; omega⟩
      · have h2 := half_even m ho
        have hb : ((m : Int) % 2 == 1) = false := by simpa using ho
        clear ho
        go_wp2
        all_goals exact ⟨⟨k + 1, half1 m, by omega, rfl, by rw [HM.out]; rfl, half1_lt hm1, rfl, rfl⟩, by simp [intOf]; omega⟩
    · go_wp2
      all_goals (first | go_ret | skip)
      all_goals exact ⟨by rw [hm]; rfl, rfl⟩

def RSumRel (W : World) (s : ByteArray) (n i : Value) (w : World) : Prop :=
  ∃ k m : Nat, k ≤ s.size ∧ i = .int .i64 (k : Int) ∧ m = crcFold 4294967295 (s.data.toList.take k) ∧ m < 4294967296 ∧ n = .int .u32 (m : Int) ∧ ∃ j, w = W.drewN j
theorem crcFold_snoc (n : Nat) (l : List UInt8) (k : Nat) (h : k < l.length) : crcFold n (l.take (k + 1)) = crcPut (crcFold n (l.take k)) (l.getD k 0).toNat := by
  rw [List.take_succ_eq_append_getElem h, crcFold_append, List.getD_eq_getElem?_getD, List.getElem?_eq_getElem h]
  rfl
theorem bt_u8 (s : ByteArray) (i : Nat) : bt s i = (((s.data.toList.getD i 0).toNat : Nat) : Int) := rfl
theorem ref05_Sum (s : ByteArray) (w : World) (hs : s.size ≤ 9223372036854775806) : Calls Try.prog 50 #[.string s] w fun e w' => e = .returned (.int .u32 (crcSum s)) ∧ ∃ k, w' = w.drewN k := by
  go_enter Try.func50, Try.ntmps50
  go_wp2_with fail
  go_loopw [3, 4] (RSumRel w s) (fun _ i _ => s.size - (intOf i).toNat)
  case atStart => exact ⟨0, 4294967295, by omega, rfl, rfl, by decide, rfl, 0, rfl⟩
  case round =>
    obtain ⟨k, m, hk, rfl, hm, hm1, rfl, j, rfl⟩ := hrel
    by_cases hlt : k < s.size
    · have hb := bt_eq s k hlt
      rw [bt_u8] at hb
      have h2 : crcFold 4294967295 (s.data.toList.take (k + 1)) = crcPut m (s.data.toList.getD k 0).toNat := by
        rw [hm]; exact crcFold_snoc _ _ _ (by rw [Array.length_toList]; exact hlt)
      obtain ⟨c, hc⟩ : ∃ c, s.data.toList.getD k 0 = c := ⟨_, rfl⟩
      rw [hc] at hb h2
      have H2 := Lib.hid h2
      have HM := Lib.hid hm
      clear hc hm h2
      have hk0 : (0 : Int) ≤ (k : Int) := Int.natCast_nonneg _
      have hk1 : (k : Int) < (s.size : Int) := by omega
      go_wp2_with fail
      refine (ref05_Put m c _ hm1).mono ?_
      rintro e w' ⟨rfl, rfl⟩
      go_wp2
      exact ⟨⟨k + 1, crcPut m c.toNat, by omega, rfl, H2.out.symm, crcPut_lt c hm1, rfl, j, rfl⟩, by simp [intOf]; omega⟩
    · obtain rfl : k = s.size := by omega
      have hf : crcSum s = 4294967295 - m := by
        have e : s.data.toList.take s.size = s.data.toList := List.take_of_length_le (by rw [Array.length_toList]; exact Nat.le_refl _)
        rw [hm, e]; rfl
      have hf2 : (4294967295 - (m : Int)) = ((crcSum s : Nat) : Int) := by rw [hf]; omega
      have HF := Lib.hid hf2
      clear hf hf2 hm
      go_wp2
      go_ret
      exact ⟨congrArg (fun x : Int => Ending.returned (.int .u32 x)) HF.out, j, rfl⟩

theorem SumsB.cell0 {w : World} {g : Nat} {d st m : Int} {f : Nat → Int} (h : SumsB w g d st m f) : w.cell? ⟨g, 0, none⟩ = some (.int .u32 d) := (Blk.cell h 0).trans (sums_get0 ..)
theorem SumsB.cell1 {w : World} {g : Nat} {d st m : Int} {f : Nat → Int} (h : SumsB w g d st m f) : w.cell? ⟨g, 1, none⟩ = some (.int .i32 st) := (Blk.cell h 1).trans (sums_get1 ..)
theorem SumsB.cell3 {w : World} {g : Nat} {d st m : Int} {f : Nat → Int} (h : SumsB w g d st m f) : w.cell? ⟨g, 3, none⟩ = some (.int .u32 m) := (Blk.cell h 3).trans (sums_get3 ..)
theorem SumsB.cellT {w : World} {g : Nat} {d st m : Int} {f : Nat → Int} (h : SumsB w g d st m f) (i : Nat) (hi : i < 256) : w.cell? ⟨g, 4 + i, none⟩ = some (.int .u32 (f i)) := (Blk.cell h _).trans (sums_getT _ _ _ _ _ hi)
theorem SumsB.frozen {w : World} {g : Nat} {d st m : Int} {f : Nat → Int} (h : SumsB w g d st m f) (i : Nat) : w.frozen? ⟨g, i, none⟩ = false := Blk.frozen h i
theorem sums_congr (d st m : Int) (f f' : Nat → Int) (h : ∀ j, j < 256 → f j = f' j) : sumsCells d st m f = sumsCells d st m f' := by
  have e : tblL f = tblL f' := by
    unfold tblL
    apply List.map_congr_left
    intro j hj
    rw [h j (List.mem_range.1 hj)]
  unfold sumsCells
  rw [e]
attribute [local irreducible] halve halfN crcPut crcFold crcSum
def MakeRel (W : World) (g : Nat) (i : Value) (w : World) : Prop :=
  ∃ k : Nat, k ≤ 256 ∧ i = .int .i64 (k : Int) ∧ SumsB w g 0 1 0 (fun j => if j < k then (halve j : Int) else 0) ∧ Ext (· = g) W w
set_option maxRecDepth 100000 in
theorem crc_make (g : Nat) (w : World) (h : SumsB w g 0 1 0 (fun _ => 0)) {R : Ending → World → Prop}
    (hR : ∀ w', SumsB w' g 0 1 1 (fun i => (halve i : Int)) → Ext (· = g) w w' → R (.returned (.tuple #[])) w') :
    Calls Try.prog 100 #[.pointer (some ⟨g, 0, none⟩)] w R := by
  go_enter Try.func100, Try.ntmps100
  go_wp2_with fail
  go_loopw [3] (MakeRel w g) (fun i _ => 256 - (intOf i).toNat)
  case atStart => exact ⟨0, by decide, rfl, by simpa using h, .refl _ _⟩
  case round =>
    obtain ⟨k, hk, rfl, hc, hx⟩ := hrel
    have hkk : k < 256 ∨ k = 256 := by omega
    rcases hkk with hk8 | rfl
    · have hk0 : (0 : Int) ≤ (k : Int) := Int.natCast_nonneg _
      have hk1 : (k : Int) < 256 := by omega
      have hm : (k : Int) % 4294967296 = k := by omega
      have hw : IntKind.u32.wrap (k : Int) = k := by rw [IntKind.wrap_u32]; exact hm
      have c0 := hc.cellT k hk8
      rw [if_neg (Nat.lt_irrefl k)] at c0
      have f0 := hc.frozen (4 + k)
      go_wp2_with fail
      go_region_with (go_at_call 104; (try rw [hw]); refine (crc_halve k _ (by omega)).mono ?_; rintro e w' ⟨rfl, rfl⟩)
      go_wp2
      refine ⟨⟨k + 1, by omega, rfl, ?_, (hx.setCell (p := ⟨g, 4 + k, none⟩) (fun _ => rfl) _).drew⟩, by simp [intOf]; omega⟩
      have hs := (Blk.set hc (4 + k) (.int .u32 (halve k : Int))).drew
      rw [sums_setT] at hs
      have e : (fun j => if j = k then (halve k : Int) else if j < k then (halve j : Int) else 0) = (fun j => if j < k + 1 then (halve j : Int) else 0) := by
        funext j
        by_cases h1 : j = k
        · subst h1; simp
        · by_cases h2 : j < k
          · rw [if_neg h1, if_pos h2, if_pos (by omega)]
          · rw [if_neg h1, if_neg h2, if_neg (by omega)]
      rw [e] at hs
      exact hs
    · have hc1 : wr.cell? ⟨g, 3, none⟩ = some (.int .u32 0) := hc.cell3
      have hf1 := hc.frozen 3
      go_wp2_with fail
      refine (store_true ⟨g, 3, none⟩ _ _ hc1 hf1).mono ?_
      rintro e w' ⟨rfl, rfl⟩
      go_wp2
      refine bodyPost_ret (results_none rfl _ _ _) rfl ?_
      refine hR _ ?_ (hx.drew.setCell (p := ⟨g, 3, none⟩) (fun _ => rfl) _)
      have hs := (Blk.drew hc).set 3 (.int .u32 1)
      rw [sums_set3] at hs
      rw [sums_congr 0 1 1 _ (fun i => (halve i : Int)) (fun j hj => if_pos hj)] at hs
      exact hs
end Go.Proofs.Ytkicaiecmipieaa
/- The once: not yet done; done. -/
namespace Go.Proofs.Ytkicaiecmipieaa
open Go.RowKit
attribute [local irreducible] halve halfN crcPut crcFold crcSum

/-- The method value that is handed to Do. -/
abbrev makeV (g : Nat) : Value := .func (.func 100) #[.pointer (some ⟨g, 0, none⟩)] #[]
def made (i : Nat) : Int := (halve i : Int)
set_option maxRecDepth 100000 in
set_option maxHeartbeats 1600000 in
theorem once_slow (g : Nat) (w : World) (h : SumsB w g 0 0 0 (fun _ => 0)) {R : Ending → World → Prop}
    (hR : ∀ w', SumsB w' g 1 0 1 (fun i => (halve i : Int)) → Ext (· = g) w w' → R (.returned (.tuple #[])) w') :
    Calls Try.prog 103 #[.pointer (some ⟨g, 0, none⟩), makeV g] w R := by
  have h1 := h.cell1
  have f1 := h.frozen 1
  have hnot : ∀ (x : Bool) (w : World), (Op.unary .not (.bool x)).run Try.prog w = .ok (.bool (!x)) w := fun _ _ => rfl
  go_enter_defers Try.func103, Try.ntmps103
  go_wp2_with fail
  refine (lock_free ⟨g, 1, none⟩ _ h1 f1).mono ?_
  rintro e w' ⟨rfl, hw1⟩
  have hs1 : SumsB w' g 0 1 0 (fun _ => 0) := by
    have := Blk.set h 1 (.int .i32 1)
    rw [sums_set1] at this
    rw [hw1]; exact this
  have hx1 : Ext (· = g) w w' := by rw [hw1]; exact Ext.self _ _ _ _
  clear hw1 h1 f1
  have h0 := hs1.cell0
  go_wp2_with fail
  refine load_bool ⟨g, 0, none⟩ 0 _ h0 ?_
  go_wp2_with fail
  refine crc_make g _ hs1 ?_
  intro w2 hs2 hx2
  go_wp2
  change Leaves _ _ _ _ _ _ _
  refine leaves_cons (f := 105) (args := #[.pointer (some ⟨g, 0, none⟩), .bool true]) (by simp) (by simp [go_sem]) ?_
  refine (store_deferred ⟨g, 0, none⟩ _ .returning _ hs2.cell0 (hs2.frozen 0)).mono ?_
  rintro e u' w'' ⟨rfl, rfl, hw3⟩
  have hs3 : SumsB w'' g 1 1 1 (fun i => (halve i : Int)) := by
    have := (Blk.drew hs2).set 0 (.int .u32 1)
    rw [sums_set0] at this
    rw [hw3]; exact this
  have hx3 : Ext (· = g) w2 w'' := by rw [hw3]; exact ((Ext.refl (· = g) w2).drew).setCell (p := ⟨g, 0, none⟩) (fun _ => rfl) _
  clear hw3
  refine leaves_cons (f := 108) (args := #[.pointer (some ⟨g, 1, none⟩)]) (by simp [settle]) (by simp [go_sem]) ?_
  refine (unlock_deferred ⟨g, 1, none⟩ _ _ hs3.cell1 (hs3.frozen 1)).mono ?_
  rintro e u' w4 ⟨rfl, rfl, hw4⟩
  have hs4 : SumsB w4 g 1 0 1 (fun i => (halve i : Int)) := by
    have := Blk.set hs3 1 (.int .i32 0)
    rw [sums_set1] at this
    rw [hw4]; exact this
  have hx4 : Ext (· = g) w'' w4 := by rw [hw4]; exact Ext.self _ _ _ _
  clear hw4
  exact ⟨_, results_none rfl _ _ _, hR _ hs4 (((hx1.trans hx2 (fun _ _ e => e)).trans hx3 (fun _ _ e => e)).trans hx4 (fun _ _ e => e))⟩

/-- Do, not yet done. -/
theorem once_first (g : Nat) (w : World) (h : SumsB w g 0 0 0 (fun _ => 0)) {R : Ending → World → Prop}
    (hR : ∀ w', SumsB w' g 1 0 1 (fun i => (halve i : Int)) → Ext (· = g) w w' → R (.returned (.tuple #[])) w') :
    Calls Try.prog 99 #[.pointer (some ⟨g, 0, none⟩), makeV g] w R := by
  have hnot : ∀ (x : Bool) (w : World), (Op.unary .not (.bool x)).run Try.prog w = .ok (.bool (!x)) w := fun _ _ => rfl
  go_enter Try.func99, Try.ntmps99
  go_wp2_with fail
  refine load_bool ⟨g, 0, none⟩ 0 _ h.cell0 ?_
  go_wp2_with fail
  refine once_slow g _ h ?_
  intro w2 hs hx
  go_wp2
  refine bodyPost_ret (results_none rfl _ _ _) rfl ?_
  exact hR _ hs hx
/-- Do, done. -/
theorem once_done (g : Nat) (fv : Value) (st m : Int) (f : Nat → Int) (w : World) (h : SumsB w g 1 st m f) {R : Ending → World → Prop} (hR : R (.returned (.tuple #[])) w) :
    Calls Try.prog 99 #[.pointer (some ⟨g, 0, none⟩), fv] w R := by
  have hnot : ∀ (x : Bool) (w : World), (Op.unary .not (.bool x)).run Try.prog w = .ok (.bool (!x)) w := fun _ _ => rfl
  go_enter Try.func99, Try.ntmps99
  go_wp2_with fail
  refine load_bool ⟨g, 0, none⟩ 1 _ h.cell0 ?_
  go_wp2
  refine bodyPost_ret (results_none rfl _ _ _) rfl ?_
  exact hR

/-- Sums, fresh or made. -/
def Sums (w : World) (g : Nat) (m : Bool) : Prop := if m then SumsB w g 1 0 1 (fun i => (halve i : Int)) else SumsB w g 0 0 0 (fun _ => 0)
theorem once_Do (g : Nat) (m : Bool) (w : World) (h : Sums w g m) {R : Ending → World → Prop}
    (hR : ∀ w', SumsB w' g 1 0 1 (fun i => (halve i : Int)) → Ext (· = g) w w' → R (.returned (.tuple #[])) w') :
    Calls Try.prog 99 #[.pointer (some ⟨g, 0, none⟩), makeV g] w R := by
  cases m
  · exact once_first g w h hR
  · exact once_done g _ _ _ _ w h (hR w h (.refl _ _))
theorem zero_sums : Try.zeroCells151 = sumsCells 0 0 0 (fun _ => 0) := by kernel_rfl
theorem crc_New (w : World)  : Calls Try.prog 51 #[] w fun e w' => e = .returned (.pointer (some ⟨w.heap.size, 0, none⟩)) ∧ Below w.heap.size w w' ∧ SumsB w' w.heap.size 0 0 0 (fun _ => 0) := by
  go_enter Try.func51, Try.ntmps51
  go_wp2_with fail
  go_ret
  refine ⟨rfl, (Below.refl _ _).alloc (Nat.le_refl _) _, ?_⟩
  have := Blk.new w 151 Try.zeroCells151
  unfold SumsB
  rw [← zero_sums]
  exact this
end Go.Proofs.Ytkicaiecmipieaa
/- The sum of texts. -/
namespace Go.Proofs.Ytkicaiecmipieaa
open Go.RowKit
theorem crcFold_take0 (n : Nat) (l : List UInt8) : n = crcFold n (l.take 0) := by rw [List.take_zero]; rfl
theorem crcMore_one (n : Nat) (t : ByteArray) : crcMore n [t] = cpl (crcFold (cpl n) t.data.toList) := rfl
attribute [local irreducible] halve halfN crcPut crcFold crcSum

theorem cpl_bits (n : Nat) (h : n < 4294967296) : bits .xor .u32 IntKind.u32.max (n : Int) = ((cpl n : Nat) : Int) := by
  have e : IntKind.u32.max = ((4294967295 : Nat) : Int) := by decide
  rw [e, bits_xor32 _ _ (by decide) h]
  congr 1
  apply Nat.eq_of_testBit_eq
  intro i
  rw [Nat.testBit_xor]
  have h1 : (4294967295 : Nat) = 2 ^ 32 - 1 := by decide
  have h2 : cpl n = 2 ^ 32 - (n + 1) := by unfold cpl; omega
  rw [h2, Nat.testBit_two_pow_sub_succ (by omega), h1, Nat.testBit_two_pow_sub_one]
  by_cases hi : i < 32
  · simp [hi]
  · simp only [hi, decide_false, Bool.false_and, Bool.false_bne]
    exact Nat.testBit_lt_two_pow (Nat.lt_of_lt_of_le (by omega : n < 2 ^ 32) (Nat.pow_le_pow_right (by decide) (by omega)))
theorem step_low (m : Nat) (c : UInt8) : bits .xor .u8 ((m : Int) % 256) (c.toNat : Int) = ((m % 256 ^^^ c.toNat : Nat) : Int) := by
  have := c.toNat_lt
  have e : (m : Int) % 256 = ((m % 256 : Nat) : Int) := by omega
  rw [e]
  exact bits_xor8 _ _ (by omega) (by omega)
theorem low_lt (m : Nat) (c : UInt8) : m % 256 ^^^ c.toNat < 256 := Nat.xor_lt_two_pow (n := 8) (by omega) (by have := c.toNat_lt; omega)
theorem step_all (m : Nat) (c : UInt8) (hm : m < 4294967296) : bits .xor .u32 ((halve (m % 256 ^^^ c.toNat) : Nat) : Int) ((m : Int) / 256) = ((crcPut m c.toNat : Nat) : Int) := by
  have := c.toNat_lt
  have hl := low_lt m c
  have e : (m : Int) / 256 = ((m / 256 : Nat) : Int) := by omega
  rw [e, bits_xor32 _ _ (halve_lt (by omega)) (by omega), crcPut_table m c.toNat (by omega)]

def MoreRel (W : World) (n : Nat) (l : List ByteArray) (s i : Value) (w : World) : Prop :=
  ∃ k m : Nat, k ≤ l.length ∧ i = .int .i64 (k : Int) ∧ m = (l.take k).foldl (fun s t => crcFold s t.data.toList) n ∧ m < 4294967296 ∧ s = .int .u32 (m : Int) ∧ ∃ j, w = W.drewN j
def MoreInRel (W : World) (n : Nat) (t : ByteArray) (s i : Value) (w : World) : Prop :=
  ∃ k m : Nat, k ≤ t.size ∧ i = .int .i64 (k : Int) ∧ m = crcFold n (t.data.toList.take k) ∧ m < 4294967296 ∧ s = .int .u32 (m : Int) ∧ ∃ j, w = W.drewN j

set_option maxRecDepth 100000 in
set_option maxHeartbeats 4000000 in
theorem crc_More (g : Nat) (m : Bool) (n : Nat) (A : Option Addr) (len c : Nat) (l : List ByteArray) (w : World) (h : Sums w g m) (hn : n < 4294967296) (hl : StrsAt w A len l) (hA : ∀ ad, A = some ad → 0 < len → ad.block ≠ g) (hlen : len ≤ 9223372036854775806)
    (hsz : ∀ s ∈ l, s.size ≤ 9223372036854775807) {R : Ending → World → Prop}
    (hR : ∀ w', Sums w' g true → Ext (· = g) w w' → R (.returned (.int .u32 (crcMore n l : Nat))) w') : Calls Try.prog 94 #[.pointer (some ⟨g, 0, none⟩), .int .u32 (n : Int), .slice A len c] w R := by
  have hmf : ∀ (fn : Fn) (first cap : Array Value) (w : World), (Instr.makeFunc fn first cap).run Try.prog w = .ok (.func fn first cap) w := fun _ _ _ _ => rfl
  have hcp := cpl_bits n hn
  have HLN := Lib.hid hl.1
  obtain ⟨n1, hn1⟩ : ∃ n1, cpl n = n1 := ⟨_, rfl⟩
  have hn2 : n1 < 4294967296 := by rw [← hn1]; exact cpl_lt n
  rw [hn1] at hcp
  have hres : crcMore n l = cpl (l.foldl (fun s t => crcFold s t.data.toList) n1) := by rw [← hn1]; rfl
  have HRES := Lib.hid hres
  clear hn1 hres
  go_enter Try.func94, Try.ntmps94
  go_wp2_with fail
  refine once_Do g m _ h ?_
  intro w1 hs1 hx1
  have hl1 := hl.ext hx1 (fun ad e h0 => hA ad e h0)
  clear hl h
  go_wp2_with fail
  go_loopw [1, 24] (MoreRel w1 n1 l) (fun _ i _ => len - (intOf i).toNat)
  case atStart => exact ⟨0, n1, by omega, rfl, rfl, hn2, rfl, 0, rfl⟩
  case round =>
    obtain ⟨k, m1, hk, rfl, hm1, hm2, rfl, j, rfl⟩ := hrel
    rw [HLN.out] at hk
    clear hcp
    have hk0 : (0 : Int) ≤ (k : Int) := Int.natCast_nonneg _
    by_cases hlt : k < len
    · have hk1 : (k : Int) < (len : Int) := by omega
      obtain ⟨ad, rfl, hc, hb⟩ := hl1.2 k hlt
      obtain ⟨t, ht⟩ : ∃ t, l.getD k ⟨#[]⟩ = t := ⟨_, rfl⟩
      rw [ht] at hc
      have htm : t ∈ l := by
        rw [← ht, List.getD_eq_getElem?_getD, List.getElem?_eq_getElem (by rw [HLN.out]; exact hlt)]
        exact List.getElem_mem _
      have htz := hsz t htm
      have hnext : (l.take (k + 1)).foldl (fun s t => crcFold s t.data.toList) n1 = crcFold m1 t.data.toList := by
        rw [List.take_succ_eq_append_getElem (by rw [HLN.out]; exact hlt), List.foldl_append, ← hm1, ← ht, List.getD_eq_getElem?_getD, List.getElem?_eq_getElem (by rw [HLN.out]; exact hlt)]
        rfl
      have HNX := Lib.hid hnext
      clear hnext hm1 htm ht
      have hlx := Lib.hid hl1
      have hax := Lib.hid hA
      have hsx := Lib.hid hsz
      clear hl1 hA hsz
      go_wp2_with fail
      go_loopw [1, 30] (MoreInRel w1 m1 t) (fun _ i _ => t.size - (intOf i).toNat)
      case atStart => exact ⟨0, m1, by omega, rfl, crcFold_take0 _ _, hm2, rfl, j, rfl⟩
      case round =>
        obtain ⟨q, m3, hq, rfl, hm3, hm4, rfl, j2, rfl⟩ := hrel
        have hq0 : (0 : Int) ≤ (q : Int) := Int.natCast_nonneg _
        by_cases hq1 : q < t.size
        · have hq2 : (q : Int) < (t.size : Int) := by omega
          have hbe := bt_eq t q hq1
          rw [bt_u8] at hbe
          have h2 : crcFold m1 (t.data.toList.take (q + 1)) = crcPut m3 (t.data.toList.getD q 0).toNat := by
            rw [hm3]; exact crcFold_snoc _ _ _ (by rw [Array.length_toList]; exact hq1)
          obtain ⟨b, hbb⟩ : ∃ b, t.data.toList.getD q 0 = b := ⟨_, rfl⟩
          rw [hbb] at hbe h2
          have H2 := Lib.hid h2
          clear hbb hm3 h2
          have hlow := step_low m3 b
          have hll := low_lt m3 b
          obtain ⟨x, hx⟩ : ∃ x, m3 % 256 ^^^ b.toNat = x := ⟨_, rfl⟩
          have hall := step_all m3 b hm4
          rw [hx] at hlow hll hall
          have hcell := hs1.cellT x hll
          have hm30 : (0 : Int) ≤ (m3 : Int) := Int.natCast_nonneg _
          have hx0 : (0 : Int) ≤ (x : Int) := Int.natCast_nonneg _
          have hx1' : (x : Int) < 256 := by omega
          clear hx
          go_wp2_with fail
          go_quiet (fail)
          go_wp2
          exact ⟨⟨q + 1, crcPut m3 b.toNat, by omega, rfl, H2.out.symm, crcPut_lt b hm4, rfl, j2 + nq, rfl⟩, by simp [intOf]; omega⟩
        · obtain rfl : q = t.size := by omega
          have e : t.data.toList.take t.size = t.data.toList := List.take_of_length_le (by rw [Array.length_toList]; exact Nat.le_refl _)
          rw [e] at hm3
          have HM := Lib.hid hm3
          clear hm3 e
          go_wp2
          exact ⟨⟨k + 1, m3, by rw [HLN.out]; omega, rfl, HM.out.trans HNX.out.symm, hm4, rfl, j2, rfl⟩, by simp [intOf]; omega⟩
    · obtain rfl : k = len := by omega
      have e : l.take k = l := List.take_of_length_le (by rw [HLN.out]; exact Nat.le_refl _)
      rw [e] at hm1
      have hcp := cpl_bits m1 hm2
      have hr : crcMore n l = cpl m1 := by rw [HRES.out, hm1]
      rw [hr] at hR
      clear hr hm1 e
      go_wp2
      exact hR _ (Blk.drewN hs1 j) (hx1.drewN j)

set_option maxRecDepth 100000 in
set_option maxHeartbeats 4000000 in
/-- Of nil sums: new ones are made. -/
theorem crc_More_nil (n : Nat) (A : Option Addr) (len c : Nat) (l : List ByteArray) (w : World) (hn : n < 4294967296) (hl : StrsAt w A len l) (hlen : len ≤ 9223372036854775806)
    (hsz : ∀ s ∈ l, s.size ≤ 9223372036854775807) {R : Ending → World → Prop}
    (hR : ∀ w', Below w.heap.size w w' → R (.returned (.int .u32 (crcMore n l : Nat))) w') : Calls Try.prog 94 #[.pointer none, .int .u32 (n : Int), .slice A len c] w R := by
  have hmf : ∀ (fn : Fn) (first cap : Array Value) (w : World), (Instr.makeFunc fn first cap).run Try.prog w = .ok (.func fn first cap) w := fun _ _ _ _ => rfl
  have hcp := cpl_bits n hn
  have HLN := Lib.hid hl.1
  have hA : ∀ ad : Addr, A = some ad → 0 < len → ad.block ≠ w.heap.size := fun ad e h0 => by
    obtain ⟨ad', e', _, hb⟩ := hl.2 0 h0
    rw [e] at e'; injection e' with e'; subst e'
    exact Nat.ne_of_lt hb
  obtain ⟨n1, hn1⟩ : ∃ n1, cpl n = n1 := ⟨_, rfl⟩
  have hn2 : n1 < 4294967296 := by rw [← hn1]; exact cpl_lt n
  rw [hn1] at hcp
  have hres : crcMore n l = cpl (l.foldl (fun s t => crcFold s t.data.toList) n1) := by rw [← hn1]; rfl
  have HRES := Lib.hid hres
  clear hn1 hres
  have hb0 : Below w.heap.size w (w.alloc (.cells Try.zeroCells151 151)) := (Below.refl _ _).alloc (Nat.le_refl _) _
  have hs0 : Sums (w.alloc (.cells Try.zeroCells151 151)) w.heap.size false := by
    show Blk _ _ _ _
    rw [← zero_sums]
    exact Blk.new _ _ _
  have hl0 := hl.below hb0 (Nat.le_refl _)
  go_enter Try.func94, Try.ntmps94
  go_wp2_with fail
  refine once_Do w.heap.size false _ hs0 ?_
  intro w1 hs1 hx1
  obtain ⟨g, hg⟩ : ∃ g, w.heap.size = g := ⟨_, rfl⟩
  rw [hg] at hs1 hx1 hA
  have hl1 := hl0.ext hx1 (fun ad e h0 => hA ad e h0)
  have hb1 := Lib.hid (below_self hb0 (Nat.le_refl _) hx1 (Nat.le_of_eq hg))
  clear hl hl0 hs0 hb0 hx1
  rw [hg]
  clear hg
  go_wp2_with fail
  go_loopw [1, 24] (MoreRel w1 n1 l) (fun _ i _ => len - (intOf i).toNat)
  case atStart => exact ⟨0, n1, by omega, rfl, rfl, hn2, rfl, 0, rfl⟩
  case round =>
    obtain ⟨k, m1, hk, rfl, hm1, hm2, rfl, j, rfl⟩ := hrel
    rw [HLN.out] at hk
    clear hcp
    have hk0 : (0 : Int) ≤ (k : Int) := Int.natCast_nonneg _
    by_cases hlt : k < len
    · have hk1 : (k : Int) < (len : Int) := by omega
      obtain ⟨ad, rfl, hc, hb⟩ := hl1.2 k hlt
      obtain ⟨t, ht⟩ : ∃ t, l.getD k ⟨#[]⟩ = t := ⟨_, rfl⟩
      rw [ht] at hc
      have htm : t ∈ l := by
        rw [← ht, List.getD_eq_getElem?_getD, List.getElem?_eq_getElem (by rw [HLN.out]; exact hlt)]
        exact List.getElem_mem _
      have htz := hsz t htm
      have hnext : (l.take (k + 1)).foldl (fun s t => crcFold s t.data.toList) n1 = crcFold m1 t.data.toList := by
        rw [List.take_succ_eq_append_getElem (by rw [HLN.out]; exact hlt), List.foldl_append, ← hm1, ← ht, List.getD_eq_getElem?_getD, List.getElem?_eq_getElem (by rw [HLN.out]; exact hlt)]
        rfl
      have HNX := Lib.hid hnext
      clear hnext hm1 htm ht
      have hlx := Lib.hid hl1
      have hax := Lib.hid hA
      have hsx := Lib.hid hsz
      clear hl1 hA hsz
      go_wp2_with fail
      go_loopw [1, 30] (MoreInRel w1 m1 t) (fun _ i _ => t.size - (intOf i).toNat)
      case atStart => exact ⟨0, m1, by omega, rfl, crcFold_take0 _ _, hm2, rfl, j, rfl⟩
      case round =>
        obtain ⟨q, m3, hq, rfl, hm3, hm4, rfl, j2, rfl⟩ := hrel
        have hq0 : (0 : Int) ≤ (q : Int) := Int.natCast_nonneg _
        by_cases hq1 : q < t.size
        · have hq2 : (q : Int) < (t.size : Int) := by omega
          have hbe := bt_eq t q hq1
          rw [bt_u8] at hbe
          have h2 : crcFold m1 (t.data.toList.take (q + 1)) = crcPut m3 (t.data.toList.getD q 0).toNat := by
            rw [hm3]; exact crcFold_snoc _ _ _ (by rw [Array.length_toList]; exact hq1)
          obtain ⟨b, hbb⟩ : ∃ b, t.data.toList.getD q 0 = b := ⟨_, rfl⟩
          rw [hbb] at hbe h2
          have H2 := Lib.hid h2
          clear hbb hm3 h2
          have hlow := step_low m3 b
          have hll := low_lt m3 b
          obtain ⟨x, hx⟩ : ∃ x, m3 % 256 ^^^ b.toNat = x := ⟨_, rfl⟩
          have hall := step_all m3 b hm4
          rw [hx] at hlow hll hall
          have hcell := hs1.cellT x hll
          have hm30 : (0 : Int) ≤ (m3 : Int) := Int.natCast_nonneg _
          have hx0 : (0 : Int) ≤ (x : Int) := Int.natCast_nonneg _
          have hx1' : (x : Int) < 256 := by omega
          clear hx
          go_wp2_with fail
          go_quiet (fail)
          go_wp2
          exact ⟨⟨q + 1, crcPut m3 b.toNat, by omega, rfl, H2.out.symm, crcPut_lt b hm4, rfl, j2 + nq, rfl⟩, by simp [intOf]; omega⟩
        · obtain rfl : q = t.size := by omega
          have e : t.data.toList.take t.size = t.data.toList := List.take_of_length_le (by rw [Array.length_toList]; exact Nat.le_refl _)
          rw [e] at hm3
          have HM := Lib.hid hm3
          clear hm3 e
          go_wp2
          exact ⟨⟨k + 1, m3, by rw [HLN.out]; omega, rfl, HM.out.trans HNX.out.symm, hm4, rfl, j2, rfl⟩, by simp [intOf]; omega⟩
    · obtain rfl : k = len := by omega
      have e : l.take k = l := List.take_of_length_le (by rw [HLN.out]; exact Nat.le_refl _)
      rw [e] at hm1
      have hcp := cpl_bits m1 hm2
      have hr : crcMore n l = cpl m1 := by rw [HRES.out, hm1]
      rw [hr] at hR
      clear hr hm1 e
      go_wp2
      exact below_drewN hb1.out j

theorem crc_Sum (g : Nat) (m : Bool) (t : ByteArray) (w : World) (h : Sums w g m) (ht : t.size ≤ 9223372036854775806) {R : Ending → World → Prop}
    (hR : ∀ w', Sums w' g true → Ext (· = g) w w' → R (.returned (.int .u32 (crcSum t : Nat))) w') : Calls Try.prog 86 #[.pointer (some ⟨g, 0, none⟩), .string t] w R := by
  have hlt : g < w.heap.size := by cases m <;> exact Blk.lt h
  have h1 : ∀ o, Sums (w.alloc o) g m := fun o => by cases m <;> exact Blk.alloc h o
  rw [← crcSum_more] at hR
  go_enter Try.func86, Try.ntmps86
  go_wp2_with fail
  refine crc_More g m 0 _ _ _ [t] _ (h1 _) (by decide) (StrsAt.new1 _ _ _) (fun ad e _ => by injection e with e; subst e; exact Nat.ne_of_gt hlt) (by decide) (fun s hs => by rw [List.mem_singleton.1 hs]; exact Nat.le_trans ht (by decide)) ?_
  intro w2 hs2 hx2
  go_wp2
  exact hR _ hs2 (((Ext.refl (· = g) w).alloc _).trans hx2 (fun _ _ e => e))
theorem crc_Sum_nil (t : ByteArray) (w : World) (ht : t.size ≤ 9223372036854775806) {R : Ending → World → Prop}
    (hR : ∀ w', Below w.heap.size w w' → R (.returned (.int .u32 (crcSum t : Nat))) w') : Calls Try.prog 86 #[.pointer none, .string t] w R := by
  rw [← crcSum_more] at hR
  go_enter Try.func86, Try.ntmps86
  go_wp2_with fail
  refine crc_More_nil 0 _ _ _ [t] _ (by decide) (StrsAt.new1 _ _ _) (by decide) (fun s hs => by rw [List.mem_singleton.1 hs]; exact Nat.le_trans ht (by decide)) ?_
  intro w2 hb2
  go_wp2
  exact ((Below.refl _ _).alloc (Nat.le_refl _) _).trans (hb2.mono (by simp))
end Go.Proofs.Ytkicaiecmipieaa
