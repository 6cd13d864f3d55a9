/- More of the document's numbers: Encode, Put, Zig, Zag. -/
import Derived.Test.YtjknchhclneneaaDoorRef03
import Derived.Test.YtjknchhclneneaaDoorRef02
import Derived.Test.YtjknchhclneneaaDoorVarint2
import Derived.Deep.RegionWith
import Derived.Laws.BytesArg
namespace Go.Proofs.YtjknchhclneneaaDoor
open Go.RowKit Go.Lib

theorem encL_fuel (k : Nat) : ∀ n, n < 128 ^ (k + 1) → encL (k + 1) n = encL k n := by
  induction k with
  | zero =>
    intro n h
    have h : n < 128 := by simpa using h
    show (if 127 < n then UInt8.ofNat (n % 128 + 128) :: encL 0 (n / 128) else [UInt8.ofNat n]) = _
    rw [if_neg (by omega)]
    rfl
  | succ k ih =>
    intro n h
    conv => lhs; rw [encL]
    conv => rhs; rw [encL]
    split
    · rw [ih (n / 128) (by rw [Nat.pow_succ] at h; omega)]
    · rfl
theorem encR_small (n : Nat) (h : n < 128) : encR n = ⟨#[UInt8.ofNat n]⟩ := by
  unfold encR
  rw [encL, if_neg (by omega)]
theorem encR_great (n : Nat) (h : 128 ≤ n) (hn : n < 18446744073709551616) : ⟨#[UInt8.ofNat (n % 128 + 128)]⟩ ++ encR (n / 128) = encR n := by
  apply ByteArray.ext
  apply Array.ext'
  rw [ByteArray.data_append, Array.toList_append]
  show [UInt8.ofNat (n % 128 + 128)] ++ encL 9 (n / 128) = encL 9 n
  rw [encL_fuel 8 (n / 128) (by omega)]
  conv => rhs; rw [encL, if_pos (by omega)]
  rfl
/-- A byte that stands in memory, as a string. -/
theorem conv_one {P : Program} (src dst e : TypeId) (hs : P.underlying src = some (.slice e)) (he : P.underlying e = some (.int .u8)) (hd : P.underlying dst = some .string) (b : Int) (g : Nat) (w : World) (hc : w.cell? ⟨g, 0, none⟩ = some (.int .u8 b)) :
    (convert src dst (.slice (some ⟨g, 0, none⟩) 1 1)).run P w = .ok (.string ⟨#[UInt8.ofNat b.toNat]⟩) w := by
  rw [run_convert_bytes_arg w src e hs he g 0 1 1 [b] rfl (fun i hi => by
    obtain rfl : i = 0 := by omega
    exact hc) dst hd]
  congr 2
end Go.Proofs.YtjknchhclneneaaDoor
