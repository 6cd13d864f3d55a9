/- Slices of strings that came in, with their capacity. -/
import Derived.Test.YtcfighedlbojeaaOpenLists
namespace Go.Proofs.Ytcfighedlbojeaa
section
open Go.ChangeShapes Go.WideShapes Go.Deep
theorem open_strs_cap {H : Type} {enc : TypeId × Value → H} {W : World} {A : Option Addr} {len cap : Nat} {d : DataW H} {ps : List MemPlace} {ts : List TypeId} {ds : List (DataW H)} {j : Nat} {base : Nat} {spare : Nat → Bool} {held : Bool}
    (hsz : (DataW.weightsEach Try.prog ts ds).all (· ≤ reachBytes) = true) (ht : ts[j]? = some 66) (hd : ds[j]? = some d)
    (h : DataW.Trod enc Try.prog W base spare held 66 (.slice A len cap) d ps) (hlt : ∀ x ∈ ps, x.block < W.heap.size) :
    ∃ l, StrsAt W A len l ∧ (∀ s ∈ l, s.size ≤ 9223372036854775807) ∧ len ≤ 140737488351232 ∧ len ≤ cap ∧ cap ≤ 9223372036854775807 := by
  obtain ⟨h1, h2, _⟩ := open_rows (B := 16) (C := 1) hsz ht hd Try.underlying66 (by kernel_rfl) (by kernel_rfl) (by decide) h hlt
  obtain ⟨n, hn⟩ := h
  obtain ⟨l, hl, hs, _⟩ := open_strs Try.underlying66 Try.underlying9 (by kernel_rfl) hn
  refine ⟨l, hl, hs, by omega, ?_⟩
  rcases h2 with ⟨_, rfl, rfl⟩ | ⟨_, _, h2, h3⟩
  · exact ⟨Nat.le_refl _, by omega⟩
  · exact ⟨h2, by unfold maxLen at h3; omega⟩
end
end Go.Proofs.Ytcfighedlbojeaa
