/- Slices that lie in a struct which came in. -/
import Derived.Test.YtgjiedjfplbipaaOpenRow
namespace Go.Proofs.Ytgjiedjfplbipaa
section
open Go.ChangeShapes Go.WideShapes Go.Deep Go.RowKit
variable {H : Type} {enc : TypeId × Value → H} {P : Program} {W : World} {base : Nat} {spare : Nat → Bool} {held : Bool}
theorem open_rows_in {t e : TypeId} {n0 : Nat} {v : Value} {y0 : DataW H × List MemPlace} {C : Nat}
    (hu : P.underlying t = some (.slice e)) (hC : P.cellsOf e = C) (hC0 : 0 < C)
    (h : DataW.trod enc P W base spare held n0 t [v] = some y0) (hlt : ∀ x ∈ y0.2, x.block < W.heap.size) :
    ∃ A len cap, v = .slice A len cap ∧ ((A = none ∧ len = 0 ∧ cap = 0) ∨ ∃ a, A = some a ∧ len ≤ cap ∧ cap ≤ maxLen) ∧ (∀ a, A = some a → 0 < len → a.block < W.heap.size) ∧
      ∃ f : Nat → List Value, ∀ i, i < len → ∃ a, A = some a ∧ (f i).length = C ∧ (∀ j, j < C → W.cell? ((a.add (i * C)).add j) = (f i)[j]?) ∧
        ∃ n y, DataW.trod enc P W base spare held n e (f i) = some y ∧ ∀ x ∈ y.2, x.block < W.heap.size := by
  rcases open_slice hu h with ⟨hcs, hx⟩ | ⟨a, ln, cp, m, n, D, Pl, hcs, hb, hl, hm, hmm, hx, hi⟩
  · simp at hcs
    exact ⟨none, 0, 0, hcs, .inl ⟨rfl, rfl, rfl⟩, fun _ h => absurd h (by simp), fun _ => [], fun i hi => absurd hi (by omega)⟩
  · simp at hcs
    have hx2 : y0.2 = MemPlace.row a (m * P.cellsOf e) ++ (List.range m).flatMap Pl := by rw [hx]
    have hlm : ln ≤ m := by rw [hmm]; split <;> omega
    rw [hC] at hi
    refine ⟨some a, ln, cp, hcs, .inr ⟨a, rfl, hl, hm⟩, fun a' ha' h0 => ?_, ?_⟩
    · cases ha'
      obtain ⟨cs', hc, _⟩ := hi 0 (by omega)
      obtain ⟨_, hcl, hat⟩ := World.cells?_some hc
      have := hat 0 hC0
      rw [List.getElem?_eq_getElem (by omega)] at this
      have hb := World.block_lt_of_cell? W _ this
      rwa [add_block, add_block] at hb
    · refine ⟨fun i => if h : i < ln then (hi i (by omega)).choose else [], fun i hil => ⟨a, rfl, ?_⟩⟩
      simp only [hil, dif_pos]
      obtain ⟨hc, ht⟩ := (hi i (by omega)).choose_spec
      obtain ⟨_, hcl, hat⟩ := World.cells?_some hc
      refine ⟨hcl, hat, n, _, ht, fun x hxm => hlt x ?_⟩
      rw [hx2]
      exact List.mem_append_right _ (List.mem_flatMap.2 ⟨i, List.mem_range.2 (by omega), hxm⟩)
end
end Go.Proofs.Ytgjiedjfplbipaa
