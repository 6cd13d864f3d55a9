/- The nine items of spencelaw21.awake, plainly. -/
import Derived.Test.YtlkjonlipnmbnaaTreeAt
namespace Go.Proofs.Ytlkjonlipnmbnaa
open Go.RowKit Go.Lib
section
def keyR (i : Nat) : ByteArray := ⟨(UInt8.ofNat i :: List.replicate 31 0).toArray⟩
def nineL (j : Nat) : List It := (List.range j).map (fun i => (keyR i, keyR i))
theorem nine_check : checkT (nineL 9) = 0 := by kernel_rfl
theorem nine_below : belowR ⟨#[]⟩ (nineL 9) = nineL 9 := by kernel_rfl
theorem nine_ok : (pgR ⟨#[]⟩ (nineL 9)).2 = true := by kernel_rfl
theorem nine_leaf : (pgR ⟨#[]⟩ (nineL 9)).1.leaf = false := by kernel_rfl
theorem nine_sl : (pgR ⟨#[]⟩ (nineL 9)).1.sl.length = 9 := by kernel_rfl
set_option maxRecDepth 100000 in
theorem nine_at : (atR ⟨#[]⟩ (nineL 9)).2 = 0 ∧ (atR ⟨#[]⟩ (nineL 9)).1.leaf = false ∧ (atR ⟨#[]⟩ (nineL 9)).1.sl.length = 9 := by
  rw [at_pg nine_check, nine_below]
  exact ⟨by dsimp only; rw [nine_ok]; rfl, nine_leaf, nine_sl⟩
theorem nine_snoc (j : Nat) : nineL (j + 1) = nineL j ++ [(keyR j, keyR j)] := by unfold nineL; rw [List.range_succ, List.map_append]; rfl
theorem nine_len (j : Nat) : (nineL j).length = j := by unfold nineL; simp
end
end Go.Proofs.Ytlkjonlipnmbnaa
