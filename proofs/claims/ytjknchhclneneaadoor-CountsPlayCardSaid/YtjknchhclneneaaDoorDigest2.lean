/- The contracts of digest: Add, Mark, Of, Right. -/
import Derived.Test.YtjknchhclneneaaDoorDigest
namespace Go.Proofs.YtjknchhclneneaaDoor
open Go.RowKit Go.Lib

theorem add_none (f : Nat → Nat) (l : List ByteArray) : (fun j => addL (f j) (l.take 0)) = f := by funext j; rw [List.take_zero]; simp [addL]
theorem addL_snoc (n : Nat) (l : List ByteArray) (s : ByteArray) : addL n (l ++ [s]) = addS (addL n l) s := by
  unfold addL
  rw [List.foldl_append, List.foldl_cons, List.foldl_nil]

/-- The mark of four numbers. -/
def markR (f : Nat → Nat) : ByteArray := ⟨(beL 8 (f 0) ++ beL 8 (f 1) ++ beL 8 (f 2) ++ beL 8 (f 3)).toArray⟩
theorem markR_size (f : Nat → Nat) : (markR f).size = 32 := by unfold markR; rw [size_lit]; simp [beL_length]
theorem fixPuts_four (f : Nat → Nat) (h : ∀ i, i < 4 → f i < 18446744073709551616) : fixAll ⟨#[]⟩ 32 0 8 [f 0, f 1, f 2, f 3] = (markR f, 0) := by
  have h0 : ∀ i, i < 4 → ¬ 0 < f i / 256 ^ 8 := fun i hi => by have := h i hi; rw [Nat.div_eq_of_lt (by simpa using this)]; decide
  have hp : ∀ (t : ByteArray) (n : Nat), t.size ≤ 24 → ¬ 0 < n / 256 ^ 8 → fixPut t 32 0 8 n = (t ++ beB 8 n, 0) := by
    intro t n ht hn
    unfold fixPut penPut
    rw [if_neg hn, if_pos rfl, if_pos (by rw [beB_size]; omega)]
  unfold fixAll
  rw [if_pos (by rfl)]
  show fixPuts ⟨#[]⟩ 32 0 8 [f 0, f 1, f 2, f 3] = _
  unfold fixPuts
  rw [List.foldl_cons, List.foldl_cons, List.foldl_cons, List.foldl_cons, List.foldl_nil]
  rw [hp _ _ (by decide) (h0 0 (by decide))]
  dsimp only
  rw [hp _ _ (by rw [ByteArray.size_append, beB_size]; decide) (h0 1 (by decide))]
  dsimp only
  rw [hp _ _ (by rw [ByteArray.size_append, ByteArray.size_append, beB_size, beB_size]; decide) (h0 2 (by decide))]
  dsimp only
  rw [hp _ _ (by rw [ByteArray.size_append, ByteArray.size_append, ByteArray.size_append, beB_size, beB_size, beB_size]; decide) (h0 3 (by decide))]
  congr 1

/-- The mark of texts. -/
def ofR (l : List ByteArray) : ByteArray := markR (fun i => addL (firstN i) l)
theorem addF_lt (l : List ByteArray) (i : Nat) (hi : i < 4) : addL (firstN i) l < 18446744073709551616 := addL_lt l (firstN_lt i hi)

end Go.Proofs.YtjknchhclneneaaDoor
