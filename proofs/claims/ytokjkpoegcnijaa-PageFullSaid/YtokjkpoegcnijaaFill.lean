/- A row of bytes that is filled with one byte. -/
import Derived.Test.YtokjkpoegcnijaaCore
import Derived.Laws.BytesArg
import Derived.Deep.OwnRows
namespace Go.Proofs.Ytokjkpoegcnijaa
open Go.RowKit Go.Lib

/-- L bytes, of which the first k are b, and the others zero. -/
def fillA (L k : Nat) (b : Int) : Array Value := Array.ofFn (n := L) fun i => if i.val < k then .int .u8 b else .int .u8 0
theorem fillA_get (L k : Nat) (b : Int) (i : Nat) (h : i < L) : (fillA L k b)[i]? = some (if i < k then .int .u8 b else .int .u8 0) := by
  unfold fillA
  simp [h]
theorem fillA_size (L k : Nat) (b : Int) : (fillA L k b).size = L := by simp [fillA]
theorem fillA_set (L k : Nat) (b : Int) : (fillA L k b).setIfInBounds k (.int .u8 b) = fillA L (k + 1) b := by
  apply Array.ext_getElem?
  intro i
  by_cases hi : i < L
  · rw [Array.getElem?_setIfInBounds, fillA_get L (k + 1) b i hi, fillA_get L k b i hi, fillA_size]
    by_cases hk : k = i
    · subst hk
      rw [if_pos rfl, if_pos hi, if_pos (by omega)]
    · rw [if_neg hk]
      by_cases h2 : i < k
      · rw [if_pos h2, if_pos (by omega)]
      · rw [if_neg h2, if_neg (by omega)]
  · rw [Array.getElem?_eq_none (by rw [Array.size_setIfInBounds, fillA_size]; omega), Array.getElem?_eq_none (by rw [fillA_size]; omega)]
theorem fillA_zero (L : Nat) (b : Int) : madeCells #[.int .u8 0] L = fillA L 0 b := by
  apply Array.ext_getElem?
  intro i
  by_cases hi : i < L
  · rw [fillA_get L 0 b i hi]
    simp [madeCells, hi, Nat.mod_one]
  · rw [Array.getElem?_eq_none (by rw [size_madeCells]; omega), Array.getElem?_eq_none (by rw [fillA_size]; omega)]
/-- L bytes b. -/
def fillB (L : Nat) (b : Int) : ByteArray := strOfNums (List.replicate L b)
theorem fillB_size (L : Nat) (b : Int) : (fillB L b).size = L := by unfold fillB; rw [strOfNums_size, List.length_replicate]
theorem fill_conv {P : Program} {w : World} {g L : Nat} {b : Int} {t : TypeId} (h : Blk w g t (fillA L L b)) (src dst e : TypeId) (hs : P.underlying src = some (.slice e)) (he : P.underlying e = some (.int .u8)) (hd : P.underlying dst = some .string) (cap : Nat) :
    (convert src dst (.slice (some ⟨g, 0, none⟩) L cap)).run P w = .ok (.string (fillB L b)) w :=
  run_convert_bytes_arg (w := w) src e hs he g 0 L cap (List.replicate L b) List.length_replicate (fun i hi => by
    rw [Nat.zero_add, h.cell, fillA_get L L b i hi, if_pos hi, List.getD_eq_getElem?_getD, List.getElem?_replicate, if_pos hi]
    rfl) dst hd
end Go.Proofs.Ytokjkpoegcnijaa
