/- Slices of bytes and of strings that came in. -/
import Derived.Test.YtkicaiecmipieaaOpen
import Derived.Test.YtkicaiecmipieaaMem
namespace Go.Proofs.Ytkicaiecmipieaa
open Go.RowKit
section
open Go.ChangeShapes Go.WideShapes Go.Deep

/-- Bytes that came in. -/
theorem open_bytes {H : Type} {enc : TypeId × Value → H} {P : Program} {W : World} {A : Option Addr} {len cap n : Nat} {base : Nat} {spare : Nat → Bool} {held : Bool} {y : DataW H × List MemPlace} {t e : TypeId}
    (hu : P.underlying t = some (.slice e)) (he : P.underlying e = some (.int .u8)) (hC : P.cellsOf e = 1)
    (h : DataW.trod enc P W base spare held n t [.slice A len cap] = some y) :
    ∃ bs, IntsAt .u8 W A len bs ∧ (∀ b ∈ bs, 0 ≤ b ∧ b < 256) ∧ len ≤ 9223372036854775807 := by
  rcases open_ints hu he hC h with ⟨hcs, _⟩ | ⟨x, l, c, zs, hcs, _, hl, hm, hz, hx, hc, hw⟩
  · simp at hcs
    obtain ⟨rfl, rfl, rfl⟩ := hcs
    exact ⟨[], ⟨rfl, fun i hi => absurd hi (by omega)⟩, fun b hb => absurd hb (by simp), by omega⟩
  · simp at hcs
    obtain ⟨rfl, rfl, rfl⟩ := hcs
    have hlz : len ≤ zs.length := by rw [hz]; split <;> omega
    refine ⟨zs.take len, ⟨by rw [List.length_take]; omega, fun i hi => ⟨x, rfl, ?_, ?_⟩⟩, fun b hb => ?_, by simp only [maxLen] at hm; omega⟩
    · have := hc i (by omega)
      rw [this]
      simp [List.getD_eq_getElem?_getD, List.getElem?_take, hi]
    · have := World.block_lt_of_cell? W _ (hc i (by omega))
      rwa [add_block] at this
    · have := bounds_u8 (hw b (List.mem_of_mem_take hb))
      omega

/-- Strings that came in. -/
theorem open_strs {H : Type} {enc : TypeId × Value → H} {P : Program} {W : World} {A : Option Addr} {len cap n : Nat} {base : Nat} {spare : Nat → Bool} {held : Bool} {y : DataW H × List MemPlace} {t e : TypeId}
    (hu : P.underlying t = some (.slice e)) (he : P.underlying e = some .string) (hC : P.cellsOf e = 1)
    (h : DataW.trod enc P W base spare held n t [.slice A len cap] = some y) :
    ∃ l, StrsAt W A len l ∧ (∀ s ∈ l, s.size ≤ 9223372036854775807) ∧ len ≤ 9223372036854775807 := by
  rcases open_strings hu he hC h with ⟨hcs, _⟩ | ⟨x, l, c, zs, hcs, _, hl, hm, hz, hx, hc, hw⟩
  · simp at hcs
    obtain ⟨rfl, rfl, rfl⟩ := hcs
    exact ⟨[], ⟨rfl, fun i hi => absurd hi (by omega)⟩, fun b hb => absurd hb (by simp), by omega⟩
  · simp at hcs
    obtain ⟨rfl, rfl, rfl⟩ := hcs
    have hlz : len ≤ zs.length := by rw [hz]; split <;> omega
    refine ⟨zs.take len, ⟨by rw [List.length_take]; omega, fun i hi => ⟨x, rfl, ?_, ?_⟩⟩, fun b hb => ?_, by simp only [maxLen] at hm; omega⟩
    · have := hc i (by omega)
      rw [this]
      simp [List.getD_eq_getElem?_getD, List.getElem?_take, hi]
      rw [List.getElem?_eq_getElem (by omega)]
      rfl
    · have := World.block_lt_of_cell? W _ (hc i (by omega))
      rwa [add_block] at this
    · exact hw b (List.mem_of_mem_take hb)
end
end Go.Proofs.Ytkicaiecmipieaa
