/- Laws that carry a region that draws its order out by hand, a step at a time: an operation that yields whatever the world is taken first; else each that may come up. -/
import Derived.Deep.RegionHeld
import Derived.Deep.DrawnRows
import Derived.Test.YtjknchhclneneaaDoorCore
namespace Go.Proofs.YtjknchhclneneaaDoor

section
variable {P : Program} {md : Region.Mode} {l : List Oper} {Q : Exit → Act → World → Prop} {S : World → Prop}
theorem drop_get {l : List Oper} {i : Nat} {o : Oper} {r : List Oper} (h : l.drop i = o :: r) : l.toArray[i]? = some o := by
  rw [List.getElem?_toArray, ← List.head?_drop, h]; rfl
/-- Take an operation first. -/
theorem held_take {i : Nat} {oi : Oper} {r : List Oper} {v : Value} {fuel : Nat} {listed : Array Bool} {a : Act} {w : World} (hd : l.drop i = oi :: r)
    (hs : Region.noSelect l.toArray = true) (hf : Region.free md l.toArray listed i = true) (hr : (Region.ready md l.toArray listed).contains i = true)
    (hQ : ∀ c a w, Q (.panic c) (a.put oi.dst v) w → Q (.panic c) a w) (hw : Region.wanted oi (yielded l.toArray a.tmps) = true)
    (hS : S w) (hy : ∀ w, S w → (execOp a.eval oi).run P w = .ok (.value v) w)
    (h : wpAnyH P md l.toArray Q S fuel (listed.setIfInBounds i true) (a.put oi.dst v) w) : wpAnyH P md l.toArray Q S (fuel + 1) listed a w :=
  wpAnyH_take (drop_get hd) hs hf hr hQ (Or.inl ⟨hw, hy⟩) hS h
/-- Pass over an operation whose guard says no. -/
theorem held_skip {i : Nat} {oi : Oper} {r : List Oper} {fuel : Nat} {listed : Array Bool} {a : Act} {w : World} (hd : l.drop i = oi :: r)
    (hs : Region.noSelect l.toArray = true) (hf : Region.free md l.toArray listed i = true) (hr : (Region.ready md l.toArray listed).contains i = true)
    (hQ : ∀ c a w, Q (.panic c) (a.put oi.dst undef) w → Q (.panic c) a w) (hw : Region.wanted oi (yielded l.toArray a.tmps) = false)
    (hS : S w) (h : wpAnyH P md l.toArray Q S fuel (listed.setIfInBounds i true) (a.put oi.dst undef) w) : wpAnyH P md l.toArray Q S (fuel + 1) listed a w :=
  wpAnyH_take (drop_get hd) hs hf hr hQ (Or.inr ⟨hw, rfl⟩) hS h
/-- One of those that may come up. -/
theorem held_cons {fuel : Nat} {listed : Array Bool} {a : Act} {w : World} {i : Nat} {o : Oper} {r : List Oper} {rs : List Nat} (hd : l.drop i = o :: r)
    (hw : Region.wanted o (yielded l.toArray a.tmps) = true)
    (h : ∀ K' : Act → World → Prop, Shut (∀ a w, S w → (S w → wpAnyH P md l.toArray Q S fuel (listed.setIfInBounds i true) a w) → K' a w) → Oper.wp P o a w K' Q)
    (hs : AllReadyH P md l.toArray Q S fuel listed a w rs) : AllReadyH P md l.toArray Q S fuel listed a w (i :: rs) :=
  AllReadyH.cons (drop_get hd) (fun K hK => by rw [if_pos hw]; exact h K hK) hs
end
open Go.RowKit in
theorem cell_below {w w' : World} (hb : Below w.heap.size w w') {a : Addr} {v : Value} (hc : w.cell? a = some v) : w'.cell? a = some v := (hb.cell (World.block_lt_of_cell? _ _ hc)).trans hc
end Go.Proofs.YtjknchhclneneaaDoor
