/- Slices of int that came in. -/
import Derived.Test.YtcfighedlbojeaaOpen
import Derived.Test.YtcfighedlbojeaaMem
namespace Go.Proofs.Ytcfighedlbojeaa
section
open Go.ChangeShapes Go.WideShapes Go.Deep
/-- Whole numbers that came in. -/
theorem open_i64s {H : Type} {enc : TypeId × Value → H} {W : World} {A : Option Addr} {len cap : Nat} {d : DataW H} {ps : List MemPlace} {ts : List TypeId} {ds : List (DataW H)} {j : Nat} {base : Nat} {spare : Nat → Bool} {held : Bool}
    (hsz : (DataW.weightsEach Try.prog ts ds).all (· ≤ reachBytes) = true) (ht : ts[j]? = some 42) (hd : ds[j]? = some d)
    (h : DataW.Trod enc Try.prog W base spare held 42 (.slice A len cap) d ps) (hlt : ∀ x ∈ ps, x.block < W.heap.size) :
    ∃ l : List Int, IntsAt .i64 W A len l ∧ len ≤ 140737488351232 := by
  obtain ⟨h1, _, h3, f, hf⟩ := open_rows (B := 8) (C := 1) hsz ht hd Try.underlying42 (by kernel_rfl) (by kernel_rfl) (by decide) h hlt
  have hg : ∀ i, i < len → ∃ x : Int, f i = [.int .i64 x] := by
    intro i hi
    obtain ⟨a, _, hl, _, n, y, ht, _⟩ := hf i hi
    obtain ⟨x, hx, _, hw⟩ := DataW.trod_int Try.underlying3 ht
    exact ⟨x, hx⟩
  have hg' : ∃ k : Nat → Int, ∀ i, i < len → f i = [.int .i64 (k i)] :=
    ⟨fun i => if h : i < len then (hg i h).choose else 0, fun i hi => by simp only [hi, dif_pos]; exact (hg i hi).choose_spec⟩
  obtain ⟨k, hk⟩ := hg'
  refine ⟨(List.range len).map k, ⟨by simp, fun i hi => ?_⟩, by omega⟩
  obtain ⟨a, rfl, hl, hc, _⟩ := hf i hi
  have e : ((List.range len).map k).getD i 0 = k i := by simp [List.getD_eq_getElem?_getD, List.getElem?_map, List.getElem?_range hi]
  rw [e]
  have := hc 0 (by decide)
  rw [hk i hi, Nat.mul_one] at this
  exact ⟨a, rfl, this, h3 a rfl (by omega)⟩
end
end Go.Proofs.Ytcfighedlbojeaa
