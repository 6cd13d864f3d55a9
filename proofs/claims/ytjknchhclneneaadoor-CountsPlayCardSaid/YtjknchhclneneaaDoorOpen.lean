/- How arguments that came in lie in memory: a slice's elements cell by cell, a struct's fields one by one. -/
import Derived.Test.YtjknchhclneneaaDoorCore
import Derived.ProofKit
import Derived.OpenShut
import Derived.ShutString
import Derived.ChangeOld
import Derived.SizedLaws
import Derived.Deep.Slices
import Derived.Deep.Fields
import Derived.ChangeSame
import Derived.Test.YtjknchhclneneaaDoorMem
namespace Go.Proofs.YtjknchhclneneaaDoor
open Go.ChangeShapes Go.WideShapes Go.Deep

section
variable {H : Type} {enc : TypeId × Value → H} {P : Program} {W : World} {base : Nat} {spare : Nat → Bool} {held : Bool}

/-- A slice that came in: its size, and its elements' cells. -/
theorem open_rows {t e : TypeId} {A : Option Addr} {len cap : Nat} {d : DataW H} {ps : List MemPlace} {ts : List TypeId} {ds : List (DataW H)} {j B C : Nat}
    (hsz : (DataW.weightsEach P ts ds).all (· ≤ reachBytes) = true) (ht : ts[j]? = some t) (hd : ds[j]? = some d)
    (hu : P.underlying t = some (.slice e)) (hB : P.bytesOf e = B) (hC : P.cellsOf e = C) (hC0 : 0 < C)
    (h : DataW.Trod enc P W base spare held t (.slice A len cap) d ps) (hlt : ∀ x ∈ ps, x.block < W.heap.size) :
    len * B ≤ 140737488351232 ∧ ((A = none ∧ len = 0 ∧ cap = 0) ∨ ∃ a, A = some a ∧ len ≤ cap ∧ cap ≤ maxLen) ∧ (∀ a, A = some a → 0 < len → a.block < W.heap.size) ∧
      ∃ f : Nat → List Value, ∀ i, i < len → ∃ a, A = some a ∧ (f i).length = C ∧ (∀ j, j < C → W.cell? ((a.add (i * C)).add j) = (f i)[j]?) ∧
        ∃ n y, DataW.trod enc P W base spare held n e (f i) = some y ∧ ∀ x ∈ y.2, x.block < W.heap.size := by
  obtain ⟨fuel, hf⟩ := h
  rcases open_slice hu hf with ⟨hcs, hx⟩ | ⟨a, ln, cp, m, n, D, Pl, hcs, hb, hl, hm, hmm, hx, hi⟩
  · simp [Value.cells] at hcs
    obtain ⟨rfl, rfl, rfl⟩ := hcs
    exact ⟨by simp, .inl ⟨rfl, rfl, rfl⟩, fun _ h => absurd h (by simp), fun _ => [], fun i hi => absurd hi (by omega)⟩
  · simp [Value.cells] at hcs
    obtain ⟨rfl, rfl, rfl⟩ := hcs
    obtain ⟨hx1, hx2⟩ := Prod.mk.inj hx
    have hlm : len ≤ m := by rw [hmm]; split <;> omega
    rw [hC] at hi
    have hsz2 := sized_slice hsz ht (by rw [hd, hx1]) hu
    rw [hB] at hsz2
    have h3 : len * B ≤ reachBytes := by
      refine Nat.le_trans (Nat.mul_le_mul_right _ ?_) hsz2
      simp
    refine ⟨h3, .inr ⟨a, rfl, hl, hm⟩, fun a' ha' h0 => ?_, ?_⟩
    · cases ha'
      obtain ⟨cs', hc, _⟩ := hi 0 (by omega)
      obtain ⟨_, hcl, hat⟩ := World.cells?_some hc
      have := hat 0 hC0
      rw [List.getElem?_eq_getElem (by omega)] at this
      have hb := World.block_lt_of_cell? W _ this
      rwa [add_block, add_block] at hb
    · refine ⟨fun i => if h : i < len then (hi i (by omega)).choose else [], fun i hil => ⟨a, rfl, ?_⟩⟩
      simp only [hil, dif_pos]
      obtain ⟨hc, ht⟩ := (hi i (by omega)).choose_spec
      obtain ⟨_, hcl, hat⟩ := World.cells?_some hc
      refine ⟨hcl, hat, n, _, ht, fun x hxm => hlt x ?_⟩
      rw [hx2]
      exact List.mem_append_right _ (List.mem_flatMap.2 ⟨i, List.mem_range.2 (by omega), hxm⟩)

/-- A struct of one-cell fields that came in: each field. -/
theorem open_fields {e : TypeId} {fs : Array Field} {n : Nat} {cs : List Value} {y : DataW H × List MemPlace} (he : P.underlying e = some (.struct fs)) (hone : oneCellFields P fs = true) (hC : P.cellsOf e = fs.size)
    (h : DataW.trod enc P W base spare held n e cs = some y) :
    ∀ (j : Nat) (f : Field), fs[j]? = some f → ∃ v m z, cs[j]? = some v ∧ DataW.trod enc P W base spare held m f.type [v] = some z ∧ ∀ x ∈ z.2, x ∈ y.2 := by
  intro j f hj
  obtain ⟨xs, m, _, hy, hlen, hxl, hf⟩ := DataW.trod_struct he h
  obtain ⟨ho, hk⟩ := hone_of hone j f hj
  have hjl : j < fs.size := (Array.getElem?_eq_some_iff.1 hj).1
  have h1 := hf j f hj
  rw [ho, hk] at h1
  have hcl : j < cs.length := by omega
  rw [List.drop_eq_getElem_cons hcl, List.take_succ_cons, List.take_zero, List.getElem?_eq_getElem (by omega)] at h1
  refine ⟨cs[j], m, _, List.getElem?_eq_getElem hcl, h1, fun x hx => ?_⟩
  rw [hy]
  exact List.mem_flatMap.2 ⟨_, List.getElem_mem _, hx⟩
end
end Go.Proofs.YtjknchhclneneaaDoor
/- Slices of bytes and of strings that came in. -/
namespace Go.Proofs.YtjknchhclneneaaDoor
open Go.RowKit
section
open Go.ChangeShapes Go.WideShapes Go.Deep

/-- Bytes that came in. -/
theorem open_bytes {H : Type} {enc : TypeId × Value → H} {P : Program} {W : World} {A : Option Addr} {len cap n : Nat} {base : Nat} {spare : Nat → Bool} {held : Bool} {y : DataW H × List MemPlace} {t e : TypeId}
    (hu : P.underlying t = some (.slice e)) (he : P.underlying e = some (.int .u8)) (hC : P.cellsOf e = 1)
    (h : DataW.trod enc P W base spare held n t [.slice A len cap] = some y) :
    ∃ bs, IntsAt .u8 W A len bs ∧ (∀ b ∈ bs, 0 ≤ b ∧ b < 256) ∧ len ≤ 9223372036854775807 := by
  rcases open_ints hu he hC h with ⟨hcs, _⟩ | ⟨x, l, c, zs, hcs, _, hl, hm, hz, hx, hc, hw⟩
  · simp at hcs
    obtain ⟨rfl, rfl, rfl⟩ := hcs
    exact ⟨[], ⟨rfl, fun i hi => absurd hi (by omega)⟩, fun b hb => absurd hb (by simp), by omega⟩
  · simp at hcs
    obtain ⟨rfl, rfl, rfl⟩ := hcs
    have hlz : len ≤ zs.length := by rw [hz]; split <;> omega
    refine ⟨zs.take len, ⟨by rw [List.length_take]; omega, fun i hi => ⟨x, rfl, ?_, ?_⟩⟩, fun b hb => ?_, by simp only [maxLen] at hm; omega⟩
    · have := hc i (by omega)
      rw [this]
      simp [List.getD_eq_getElem?_getD, List.getElem?_take, hi]
    · have := World.block_lt_of_cell? W _ (hc i (by omega))
      rwa [add_block] at this
    · have := bounds_u8 (hw b (List.mem_of_mem_take hb))
      omega

/-- Strings that came in. -/
theorem open_strs {H : Type} {enc : TypeId × Value → H} {P : Program} {W : World} {A : Option Addr} {len cap n : Nat} {base : Nat} {spare : Nat → Bool} {held : Bool} {y : DataW H × List MemPlace} {t e : TypeId}
    (hu : P.underlying t = some (.slice e)) (he : P.underlying e = some .string) (hC : P.cellsOf e = 1)
    (h : DataW.trod enc P W base spare held n t [.slice A len cap] = some y) :
    ∃ l, StrsAt W A len l ∧ (∀ s ∈ l, s.size ≤ 9223372036854775807) ∧ len ≤ 9223372036854775807 := by
  rcases open_strings hu he hC h with ⟨hcs, _⟩ | ⟨x, l, c, zs, hcs, _, hl, hm, hz, hx, hc, hw⟩
  · simp at hcs
    obtain ⟨rfl, rfl, rfl⟩ := hcs
    exact ⟨[], ⟨rfl, fun i hi => absurd hi (by omega)⟩, fun b hb => absurd hb (by simp), by omega⟩
  · simp at hcs
    obtain ⟨rfl, rfl, rfl⟩ := hcs
    have hlz : len ≤ zs.length := by rw [hz]; split <;> omega
    refine ⟨zs.take len, ⟨by rw [List.length_take]; omega, fun i hi => ⟨x, rfl, ?_, ?_⟩⟩, fun b hb => ?_, by simp only [maxLen] at hm; omega⟩
    · have := hc i (by omega)
      rw [this]
      simp [List.getD_eq_getElem?_getD, List.getElem?_take, hi]
      rw [List.getElem?_eq_getElem (by omega)]
      rfl
    · have := World.block_lt_of_cell? W _ (hc i (by omega))
      rwa [add_block] at this
    · exact hw b (List.mem_of_mem_take hb)
end
end Go.Proofs.YtjknchhclneneaaDoor
