/- The contracts of digest's maker. -/
import Derived.Test.YtjknchhclneneaaDoorFixed
import Derived.Test.YtjknchhclneneaaDoorVarint2
import Derived.Test.YtjknchhclneneaaDoorDigestMath
import Derived.Laws.BitsAllLaws
import Derived.Deep.RegionWith
import Derived.Outline
namespace Go.Proofs.YtjknchhclneneaaDoor
open Go.RowKit Go.Lib

/-- The cells of a maker. -/
def mkC (b : Bool) (f : Nat → Nat) : Array Value := #[.bool b, .int .u64 (f 0 : Nat), .int .u64 (f 1 : Nat), .int .u64 (f 2 : Nat), .int .u64 (f 3 : Nat)]
theorem mkC_get (b : Bool) (f : Nat → Nat) (i : Nat) (hi : i < 4) : (mkC b f)[1 + i]? = some (.int .u64 (f i : Nat)) := by
  match i, hi with
  | 0, _ => rfl
  | 1, _ => rfl
  | 2, _ => rfl
  | 3, _ => rfl
theorem mkC_set (b : Bool) (f h : Nat → Nat) (q : Nat) (hq : q < 4) (x : Int) (hx : x = (h q : Nat)) :
    (mkC b (fun i => if i < q then h i else f i)).setIfInBounds (1 + q) (.int .u64 x) = mkC b (fun i => if i < q + 1 then h i else f i) := by
  subst hx
  match q, hq with
  | 0, _ => rfl
  | 1, _ => rfl
  | 2, _ => rfl
  | 3, _ => rfl
theorem mkC_four (b : Bool) (f h : Nat → Nat) : mkC b (fun i => if i < 4 then h i else f i) = mkC b h := rfl
theorem mkC_zero (b : Bool) (f h : Nat → Nat) : mkC b (fun i => if i < 0 then h i else f i) = mkC b f := rfl
/-- Where numbers begin. -/
def firstN (i : Nat) : Nat := 14695981039346656037 + i
theorem firstN_lt (i : Nat) (h : i < 4) : firstN i < 18446744073709551616 := by unfold firstN; omega
def addS (n : Nat) (s : ByteArray) : Nat := mixL (mixL n (encR s.size).data.toList) s.data.toList
def addL (n : Nat) (l : List ByteArray) : Nat := l.foldl addS n
theorem addS_lt {n : Nat} (h : n < 18446744073709551616) (s : ByteArray) : addS n s < 18446744073709551616 := mixL_lt _ (mixL_lt _ h)
theorem addL_lt (l : List ByteArray) : ∀ {n : Nat}, n < 18446744073709551616 → addL n l < 18446744073709551616 := by
  induction l with
  | nil => intro n h; exact h
  | cons s l ih => intro n h; exact ih (addS_lt h s)
theorem addL_append (n : Nat) (l l' : List ByteArray) : addL n (l ++ l') = addL (addL n l) l' := List.foldl_append ..

theorem mix_int (n : Nat) (c : UInt8) (hn : n < 18446744073709551616) : IntKind.u64.wrap (bits .xor .u64 (n : Int) (IntKind.u64.wrap ((c.toNat : Nat) : Int)) * 1099511628211) = ((mixB n c.toNat : Nat) : Int) := by
  have hc := c.toNat_lt
  rw [show IntKind.u64.wrap ((c.toNat : Nat) : Int) = ((c.toNat : Nat) : Int) from by rw [IntKind.wrap_u64]; omega, u64_xor_nat n c.toNat hn (by omega), IntKind.wrap_u64]
  unfold mixB
  omega

theorem mix_none (f : Nat → Nat) (l : List UInt8) : (fun j => mixL (f j) (l.take 0)) = f := by funext j; rw [List.take_zero]; simp [mixL]
end Go.Proofs.YtjknchhclneneaaDoor
