/- bits.Len64 by the shelf's contract; Size. -/
import Derived.Shelf.Lay
import Derived.Shelf.Strconv.Itoa0
import Derived.Test.YtkicaiecmipieaaVarintSize
namespace Go.Proofs
open Go.Shelf
shelf_lay Lays.n129 Nm 129 at Try as Try.lays129
end Go.Proofs
namespace Go.Proofs.Ytkicaiecmipieaa
open Go.RowKit Go.Lib
theorem bits_Len64 (x : Nat) (w : World) (h : x < 18446744073709551616) :
    Calls Try.prog 87 #[.int .u64 (x : Int)] w fun e w' => e = .returned (.int .i64 (Lib.bitLen x : Nat)) ∧ w = w' :=
  (Any.bits_Len64 Try.lays129 (x : Int) w (by omega) (by omega)).mono fun e w' ⟨he, hw⟩ => ⟨he, hw.symm⟩
theorem varint_Size (x : Nat) (w : World) (h : x < 18446744073709551616) :
    Calls Try.prog 60 #[.int .u64 (x : Int)] w fun e w' => e = .returned (.int .i64 ((encR x).size : Nat)) ∧ w = w' := by
  have hb := bitLen_small 64 x h (by decide)
  have he := encR_len x h
  obtain ⟨b, hbb⟩ : ∃ b, Lib.bitLen x = b := ⟨_, rfl⟩
  obtain ⟨z, hz⟩ : ∃ z, (encR x).size = z := ⟨_, rfl⟩
  rw [hbb] at hb he
  rw [hz] at he ⊢
  have hd : (max (1 : Int) (((b : Int) + 6) / 7)) = (z : Int) := by omega
  have HB := Lib.hid hbb
  clear hbb hz he
  go_enter Try.func60, Try.ntmps60
  go_wp2_with fail
  refine (bits_Len64 x _ h).mono ?_
  rw [HB.out]
  rintro e w' ⟨rfl, rfl⟩
  have hmax := run_max_i (P := Try.prog)
  go_wp2
  go_ret
  exact ⟨rfl, rfl⟩
end Go.Proofs.Ytkicaiecmipieaa
