/- bits.Len64 by the shelf's contract; Size. -/
import Derived.Shelf.Strconv.Itoa0
import Derived.Test.YtkicaiecmipieaaVarint2
namespace Go.Proofs
open Go.Shelf
def Try.lays129_ren : Go.Shelf.Ren := ⟨fun | 129 => 87 | n => n, fun | 53 => 69 | 3 => 3 | 4 => 4 | 46 => 158 | 5 => 5 | 9 => 9 | n => n, fun | n => n⟩
theorem Try.lays129 : Go.Proofs.Lays.n129 Try.prog Try.lays129_ren := {
  mixed := by kernel_rfl
  f129 := Try.func87.trans (congrArg some (by kernel_rfl))
  t3 := Try.underlying3
  a3 := Try.isAgg3
  z3 := Try.sizeOf3
  v3 := Try.zeroValue3
  t4 := Try.underlying4
  a4 := Try.isAgg4
  z4 := Try.sizeOf4
  v4 := Try.zeroValue4
  t5 := Try.underlying5
  a5 := Try.isAgg5
  z5 := Try.sizeOf5
  v5 := Try.zeroValue5
  t9 := Try.underlying9
  a9 := Try.isAgg9
  z9 := Try.sizeOf9
  v9 := Try.zeroValue9
  t46 := Try.underlying158
  a46 := Try.isAgg158
  z46 := Try.sizeOf158
  v46 := Try.zeroValue158
  t53 := Try.underlying69
  a53 := Try.isAgg69
  z53 := Try.sizeOf69
  v53 := Try.zeroValue69 }
end Go.Proofs
namespace Go.Proofs.Ytkicaiecmipieaa
open Go.RowKit Go.Lib
theorem bits_Len64 (x : Nat) (w : World) (h : x < 18446744073709551616) :
    Calls Try.prog 87 #[.int .u64 (x : Int)] w fun e w' => e = .returned (.int .i64 (Lib.bitLen x : Nat)) ∧ w = w' :=
  (Any.bits_Len64 Try.lays129 (x : Int) w (by omega) (by omega)).mono fun e w' ⟨he, hw⟩ => ⟨he, hw.symm⟩
theorem varint_Size (x : Nat) (w : World) (h : x < 18446744073709551616) :
    Calls Try.prog 60 #[.int .u64 (x : Int)] w fun e w' => e = .returned (.int .i64 ((encR x).size : Nat)) ∧ w = w' := by
  have hb := bitLen_small 64 x h (by decide)
  have he := encR_len x h
  obtain ⟨b, hbb⟩ : ∃ b, Lib.bitLen x = b := ⟨_, rfl⟩
  obtain ⟨z, hz⟩ : ∃ z, (encR x).size = z := ⟨_, rfl⟩
  rw [hbb] at hb he
  rw [hz] at he ⊢
  have hd : (max (1 : Int) (((b : Int) + 6) / 7)) = (z : Int) := by omega
  have HB := Lib.hid hbb
  clear hbb hz he
  go_enter Try.func60, Try.ntmps60
  go_wp2_with fail
  refine (bits_Len64 x _ h).mono ?_
  rw [HB.out]
  rintro e w' ⟨rfl, rfl⟩
  have hmax := run_max_i (P := Try.prog)
  go_wp2
  go_ret
  exact ⟨rfl, rfl⟩
end Go.Proofs.Ytkicaiecmipieaa
