/- bits.Len64 by the shelf's contract; Size. -/
import Derived.Shelf.Strconv.Itoa0
import Derived.Test.YtcfighedlbojeaaVarint2
namespace Go.Proofs
open Go.Shelf
def Try.lays129_ren : Go.Shelf.Ren := ⟨fun | 129 => 68 | n => n, fun | 53 => 28 | 3 => 3 | 4 => 4 | 46 => 104 | 5 => 5 | 9 => 9 | n => n, fun | n => n⟩
theorem Try.lays129 : Go.Proofs.Lays.n129 Try.prog Try.lays129_ren := {
  mixed := by kernel_rfl
  f129 := Try.func68.trans (congrArg some (by kernel_rfl))
  t3 := Try.underlying3
  a3 := Try.isAgg3
  z3 := Try.sizeOf3
  v3 := Try.zeroValue3
  t4 := Try.underlying4
  a4 := Try.isAgg4
  z4 := Try.sizeOf4
  v4 := Try.zeroValue4
  t5 := Try.underlying5
  a5 := Try.isAgg5
  z5 := Try.sizeOf5
  v5 := Try.zeroValue5
  t9 := Try.underlying9
  a9 := Try.isAgg9
  z9 := Try.sizeOf9
  v9 := Try.zeroValue9
  t46 := Try.underlying104
  a46 := Try.isAgg104
  z46 := Try.sizeOf104
  v46 := Try.zeroValue104
  t53 := Try.underlying28
  a53 := Try.isAgg28
  z53 := Try.sizeOf28
  v53 := Try.zeroValue28 }
end Go.Proofs
namespace Go.Proofs.Ytcfighedlbojeaa
open Go.RowKit Go.Lib
theorem bits_Len64 (x : Nat) (w : World) (h : x < 18446744073709551616) :
    Calls Try.prog 68 #[.int .u64 (x : Int)] w fun e w' => e = .returned (.int .i64 (Lib.bitLen x : Nat)) ∧ w = w' :=
  (Any.bits_Len64 Try.lays129 (x : Int) w (by omega) (by omega)).mono fun e w' ⟨he, hw⟩ => ⟨he, hw.symm⟩
theorem varint_Size (x : Nat) (w : World) (h : x < 18446744073709551616) :
    Calls Try.prog 22 #[.int .u64 (x : Int)] w fun e w' => e = .returned (.int .i64 ((encR x).size : Nat)) ∧ w = w' := by
  have hb := bitLen_small 64 x h (by decide)
  have he := encR_len x h
  obtain ⟨b, hbb⟩ : ∃ b, Lib.bitLen x = b := ⟨_, rfl⟩
  obtain ⟨z, hz⟩ : ∃ z, (encR x).size = z := ⟨_, rfl⟩
  rw [hbb] at hb he
  rw [hz] at he ⊢
  have hd : (max (1 : Int) (((b : Int) + 6) / 7)) = (z : Int) := by omega
  have HB := Lib.hid hbb
  clear hbb hz he
  go_enter Try.func22, Try.ntmps22
  go_wp2_with fail
  refine (bits_Len64 x _ h).mono ?_
  rw [HB.out]
  rintro e w' ⟨rfl, rfl⟩
  have hmax := run_max_i (P := Try.prog)
  go_wp2
  go_ret
  exact ⟨rfl, rfl⟩
end Go.Proofs.Ytcfighedlbojeaa
