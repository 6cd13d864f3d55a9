/- Slices of uint64 that came in. -/
import Derived.Test.YtcfighedlbojeaaOpen
import Derived.Test.YtcfighedlbojeaaMem
namespace Go.Proofs.Ytcfighedlbojeaa
section
open Go.ChangeShapes Go.WideShapes Go.Deep
/-- Whole numbers that came in. -/
theorem open_u64s {H : Type} {enc : TypeId × Value → H} {W : World} {A : Option Addr} {len cap : Nat} {d : DataW H} {ps : List MemPlace} {ts : List TypeId} {ds : List (DataW H)} {j : Nat} {base : Nat} {spare : Nat → Bool} {held : Bool}
    (hsz : (DataW.weightsEach Try.prog ts ds).all (· ≤ reachBytes) = true) (ht : ts[j]? = some 57) (hd : ds[j]? = some d)
    (h : DataW.Trod enc Try.prog W base spare held 57 (.slice A len cap) d ps) (hlt : ∀ x ∈ ps, x.block < W.heap.size) :
    ∃ l : List Nat, IntsAt .u64 W A len (l.map Int.ofNat) ∧ (∀ x ∈ l, x < 18446744073709551616) ∧ len ≤ 140737488351232 := by
  obtain ⟨h1, _, h3, f, hf⟩ := open_rows (B := 8) (C := 1) hsz ht hd Try.underlying57 (by kernel_rfl) (by kernel_rfl) (by decide) h hlt
  have hg : ∀ i, i < len → ∃ x : Nat, x < 18446744073709551616 ∧ f i = [.int .u64 (x : Int)] := by
    intro i hi
    obtain ⟨a, _, hl, _, n, y, ht, _⟩ := hf i hi
    obtain ⟨x, hx, _, hw⟩ := DataW.trod_int Try.underlying28 ht
    have hb := bounds_u64 hw
    exact ⟨x.toNat, by omega, by rw [hx, Int.toNat_of_nonneg hb.1]⟩
  have hg' : ∃ k : Nat → Nat, ∀ i, i < len → k i < 18446744073709551616 ∧ f i = [.int .u64 (k i : Int)] :=
    ⟨fun i => if h : i < len then (hg i h).choose else 0, fun i hi => by simp only [hi, dif_pos]; exact (hg i hi).choose_spec⟩
  obtain ⟨k, hk⟩ := hg'
  refine ⟨(List.range len).map k, ⟨by simp, fun i hi => ?_⟩, fun x hx => ?_, by omega⟩
  · obtain ⟨a, rfl, hl, hc, _⟩ := hf i hi
    have e : (((List.range len).map k).map Int.ofNat).getD i 0 = (k i : Int) := by simp [List.getD_eq_getElem?_getD, List.getElem?_map, List.getElem?_range hi]
    rw [e]
    have := hc 0 (by decide)
    rw [(hk i hi).2, Nat.mul_one] at this
    exact ⟨a, rfl, this, h3 a rfl (by omega)⟩
  · rw [List.mem_map] at hx
    obtain ⟨i, hi, rfl⟩ := hx
    exact (hk i (List.mem_range.1 hi)).1
end
end Go.Proofs.Ytcfighedlbojeaa
