/- More of the document's numbers: Encode, Put, Zig, Zag. -/
import Derived.Test.YtlkjonlipnmbnaaRef03
import Derived.Test.YtlkjonlipnmbnaaRef02
import Derived.Test.YtlkjonlipnmbnaaVarint2
import Derived.Deep.RegionWith
import Derived.Laws.BytesArg
namespace Go.Proofs.Ytlkjonlipnmbnaa
open Go.RowKit Go.Lib

theorem encL_fuel (k : Nat) : ∀ n, n < 128 ^ (k + 1) → encL (k + 1) n = encL k n := by
  induction k with
  | zero =>
    intro n h
    have h : n < 128 := by simpa using h
    show (if 127 < n then UInt8.ofNat (n % 128 + 128) :: encL 0 (n / 128) else [UInt8.ofNat n]) = _
    rw [if_neg (by omega)]
    rfl
  | succ k ih =>
    intro n h
    conv => lhs; rw [encL]
    conv => rhs; rw [encL]
    split
    · rw [ih (n / 128) (by rw [Nat.pow_succ] at h; omega)]
    · rfl
theorem encR_small (n : Nat) (h : n < 128) : encR n = ⟨#[UInt8.ofNat n]⟩ := by
  unfold encR
  rw [encL, if_neg (by omega)]
theorem encR_great (n : Nat) (h : 128 ≤ n) (hn : n < 18446744073709551616) : ⟨#[UInt8.ofNat (n % 128 + 128)]⟩ ++ encR (n / 128) = encR n := by
  apply ByteArray.ext
  apply Array.ext'
  rw [ByteArray.data_append, Array.toList_append]
  show [UInt8.ofNat (n % 128 + 128)] ++ encL 9 (n / 128) = encL 9 n
  rw [encL_fuel 8 (n / 128) (by omega)]
  conv => rhs; rw [encL, if_pos (by omega)]
  rfl
/-- A byte that stands in memory, as a string. -/
theorem conv_one {P : Program} (src dst e : TypeId) (hs : P.underlying src = some (.slice e)) (he : P.underlying e = some (.int .u8)) (hd : P.underlying dst = some .string) (b : Int) (g : Nat) (w : World) (hc : w.cell? ⟨g, 0, none⟩ = some (.int .u8 b)) :
    (convert src dst (.slice (some ⟨g, 0, none⟩) 1 1)).run P w = .ok (.string ⟨#[UInt8.ofNat b.toNat]⟩) w := by
  rw [run_convert_bytes_arg w src e hs he g 0 1 1 [b] rfl (fun i hi => by
    obtain rfl : i = 0 := by omega
    exact hc) dst hd]
  congr 2
set_option maxHeartbeats 2000000 in
set_option maxRecDepth 100000 in
theorem ref03_Encode (n : Nat) (w : World) (hn : n < 18446744073709551616) :
    Calls Try.prog 74 #[.int .u64 (n : Int)] w fun e w' => e = .returned (.string (encR n)) ∧ Below w.heap.size w w' := by
  induction n using Nat.strongRecOn generalizing w with
  | ind n ih =>
  by_cases h : n < 128
  · rw [encR_small n h]
    have hcv := fun w => run_string_one (P := Try.prog) 34 9 5 Try.underlying34 Try.underlying5 Try.underlying9 ((n : Int)) w
    rw [Int.toNat_natCast] at hcv
    clear ih
    go_enter Try.func74, Try.ntmps74
    go_wp2
    go_ret
    exact ⟨rfl, (Below.refl _ _).alloc (Nat.le_refl _) _⟩
  · have hih := fun w => ih (n / 128) (by omega) w (by omega)
    have hgr := encR_great n (by omega) hn
    have hz := encR_size (n / 128)
    clear ih
    obtain ⟨y, hy⟩ : ∃ y, n / 128 = y := ⟨_, rfl⟩
    have hyi : (n : Int) / 128 = (y : Int) := by omega
    rw [hy] at hih hgr hz
    have hcv := fun w => run_string_one (P := Try.prog) 34 9 5 Try.underlying34 Try.underlying5 Try.underlying9 (IntKind.u8.wrap (IntKind.u64.wrap ((n : Int).tmod 128 + 128))) w
    have htm : (n : Int).tmod 128 = ((n % 128 : Nat) : Int) := by rw [Int.tmod_eq_emod_of_nonneg (by omega)]; rfl
    have hby : IntKind.u8.wrap (IntKind.u64.wrap ((n : Int).tmod 128 + 128)) = ((n % 128 + 128 : Nat) : Int) := by rw [htm, IntKind.wrap_u64, IntKind.wrap_u8]; omega
    have hyt : (n : Int).tdiv 128 = (y : Int) := by rw [Int.tdiv_eq_ediv_of_nonneg (by omega)]; exact hyi
    rw [show (IntKind.u8.wrap (IntKind.u64.wrap ((n : Int).tmod 128 + 128))).toNat = n % 128 + 128 from by rw [hby]; rfl] at hcv
    have ho1 : (⟨#[UInt8.ofNat (n % 128 + 128)]⟩ : ByteArray).size ≤ 1 := Nat.le_refl _
    obtain ⟨o, ho⟩ : ∃ o, (⟨#[UInt8.ofNat (n % 128 + 128)]⟩ : ByteArray) = o := ⟨_, rfl⟩
    obtain ⟨r, hr⟩ : ∃ r, encR y = r := ⟨_, rfl⟩
    have hc1 := fun w => conv_one (P := Try.prog) 34 9 5 Try.underlying34 Try.underlying5 Try.underlying9 (IntKind.u8.wrap (IntKind.u64.wrap ((n : Int).tmod 128 + 128))) w
    rw [show (IntKind.u8.wrap (IntKind.u64.wrap ((n : Int).tmod 128 + 128))).toNat = n % 128 + 128 from by rw [hby]; rfl] at hc1
    rw [ho] at hcv hgr ho1 hc1
    rw [hr] at hgr hz hih
    rw [← hgr]
    have hcv2 : (convert 34 9 (.slice (some ⟨w.heap.size, 0, none⟩) 1 1)).run Try.prog (w.alloc (.cells #[.int .u8 (IntKind.u8.wrap (IntKind.u64.wrap ((n : Int).tmod 128 + 128)))] 5)).drew = .ok (.string o) (w.alloc (.cells #[.int .u8 (IntKind.u8.wrap (IntKind.u64.wrap ((n : Int).tmod 128 + 128)))] 5)).drew := by
      exact hcv w.drew
    clear hgr hr ho hby htm
    have HC1 := Lib.hid hc1
    clear hc1
    have hyw : IntKind.u64.wrap (y : Int) = y := by rw [IntKind.wrap_u64]; omega
    have HIH := Lib.hid hih
    clear hih hy
    go_enter Try.func74, Try.ntmps74
    go_wp2_with fail
    go_region_with (first
      | (go_at_call 74; (try rw [hyt]); (try rw [hyw]); refine (HIH.out ((w.alloc (.cells #[.int .u8 (IntKind.u8.wrap (IntKind.u64.wrap ((n : Int).tmod 128 + 128)))] 5)).drew)).mono ?_; rintro e1 w1 ⟨rfl, hb1⟩; have hcv3 := HC1.out w.heap.size w1 ((hb1.cell (by simp)).trans (by simp)))
      | (go_at_call 74; (try rw [hyt]); (try rw [hyw]); refine (HIH.out w.drew).mono ?_; rintro e1 w1 ⟨rfl, hb1⟩))
    all_goals go_wp2
    all_goals (try go_ret)
    all_goals first
      | exact ⟨rfl, ⟨hb1.os, hb1.tape, hb1.output, by have := hb1.size; simp at this; omega, fun k hk => (hb1.block k (by simp; omega)).trans (Below.heap_alloc _ _ _ hk)⟩⟩
      | exact ⟨rfl, (show Below w.heap.size w w1 from ⟨hb1.os, hb1.tape, hb1.output, hb1.size, hb1.block⟩).alloc hb1.size _⟩
theorem ref03_Put (g : Nat) (t : ByteArray) (max err : Int) (n : Nat) (w : World) (h : RPen w g t max err) (h0 : 0 ≤ max) (h1 : max ≤ 9223372036854775807) (hn : n < 18446744073709551616) (hz : t.size + 10 ≤ 140737488355328) {R : Ending → World → Prop}
    (hR : ∀ w', RPen w' g (penPut t max err (encR n)).1 max (penPut t max err (encR n)).2 → Ext (· = g) w w' → R (.returned (.tuple #[])) w') :
    Calls Try.prog 81 #[.pointer (some ⟨g, 0, none⟩), .int .u64 (n : Int)] w R := by
  have hzz := encR_size n
  go_enter Try.func81, Try.ntmps81
  go_wp2_with fail
  refine (ref03_Encode n _ hn).mono ?_
  rintro e w1 ⟨rfl, hb1⟩
  have hp1 : RPen w1 g t max err := Blk.below h hb1 (Blk.lt h)
  go_wp2_with fail
  refine ref02_Text g t max err (encR n) _ hp1 (by omega) h0 h1 ?_
  intro w2 hp2 hx2
  go_wp2
  refine bodyPost_ret (results_none rfl _ _ _) rfl ?_
  exact hR _ hp2 (Ext.trans (S' := (· = g)) (Ext.mono (S := fun b => w.heap.size ≤ b) (Ext.of_below hb1) (fun b hb h => absurd h (by omega))) hx2 (fun _ _ e => e))
end Go.Proofs.Ytlkjonlipnmbnaa
