/- page.items, page.slots, page.Take, page.Decode. -/
import Derived.Test.YtgjiedjfplbipaaPagePut
import Derived.Test.YtgjiedjfplbipaaBlob
namespace Go.Proofs.Ytgjiedjfplbipaa
open Go.RowKit Go.Lib
section
/-- An item that is read behind place a. -/
def itStep (s pre : ByteArray) (a : Nat) (last : ByteArray) (first : Bool) : It × Nat × Int :=
  let r := bytesR s a 0 32
  let e1 := if r.2.2 ≠ 0 then r.2.2 else if beginsR r.1 pre = false then 18 else if first = false ∧ leB r.1 last = true then 6 else 0
  let q := bytesR s r.2.1 e1 32
  ((r.1, q.1), q.2.1, q.2.2)
/-- n items behind place a. -/
def itL (s pre : ByteArray) : Nat → Nat → ByteArray → Bool → List It × Nat × Int
  | 0, a, _, _ => ([], a, 0)
  | n + 1, a, last, first =>
    let r := itStep s pre a last first
    if r.2.2 ≠ 0 then ([], r.2.1, r.2.2) else ((r.1 :: (itL s pre n r.2.1 r.1.1 false).1), (itL s pre n r.2.1 r.1.1 false).2)
def itemsR (s : ByteArray) (a : Nat) (e : Int) (pre : ByteArray) : List It × Nat × Int :=
  let c := countR s a e 8
  if c.2.2 ≠ 0 then ([], c.2.1, c.2.2) else itL s pre c.1 c.2.1 emp true
/-- Is a byte not above the last one? -/
def overS (last : Option Int) (b : Int) : Bool := match last with | some x => decide (b ≤ x) | none => false
/-- A slot that is read behind place a. -/
def slStep (s : ByteArray) (a : Nat) (last : Option Int) : Sl × Nat × Int :=
  let r := byteR s a 0
  let e1 := if r.2.2 ≠ 0 then r.2.2 else if overS last r.1 = true then 6 else 0
  let q := bytesR s r.2.1 e1 32
  ((r.1, q.1), q.2.1, q.2.2)
def slL (s : ByteArray) : Nat → Nat → Option Int → List Sl × Nat × Int
  | 0, a, _ => ([], a, 0)
  | n + 1, a, last =>
    let r := slStep s a last
    if r.2.2 ≠ 0 then ([], r.2.1, r.2.2) else ((r.1 :: (slL s n r.2.1 (some r.1.1)).1), (slL s n r.2.1 (some r.1.1)).2)
def slotsR (s : ByteArray) (a : Nat) (e : Int) : List Sl × Nat × Int :=
  let c := countR s a e 256
  if c.2.2 ≠ 0 then ([], c.2.1, c.2.2) else if c.1 = 0 then ([], c.2.1, 7) else slL s c.1 c.2.1 none
theorem itC_one (x : It) : ∀ u ∈ itC x, u.oneCell' = true := by
  intro u hu
  simp only [itC, List.mem_cons, List.not_mem_nil, or_false] at hu
  rcases hu with rfl | rfl <;> rfl
theorem slC_one (x : Sl) : ∀ u ∈ slC x, u.oneCell' = true := by
  intro u hu
  simp only [slC, List.mem_cons, List.not_mem_nil, or_false] at hu
  rcases hu with rfl | rfl <;> rfl
theorem Own.blkT {α : Type} {f : α → List Value} {k : Nat} {w : World} {B : Nat} {e : TypeId} {v : Value} {l : List α} (h : Own w B e k f v l) {b : Nat} (hb : v.ownBlock = some b) : ∃ cs, Blk w b e cs := by
  rcases h.2 with ⟨rfl, _⟩ | ⟨g', cap, cur, rfl, _, hh, _⟩
  · simp [Value.ownBlock] at hb
  · simp only [Value.ownBlock, Option.some.injEq] at hb
    subst hb
    exact ⟨cur, hh⟩
theorem itStep_at {s pre : ByteArray} {a : Nat} {last : ByteArray} {first : Bool} (h : a ≤ s.size) : (itStep s pre a last first).2.1 ≤ s.size := by
  unfold itStep; exact bytesR_at (bytesR_at h)
/-- The last key of some items. -/
def keyL (l : List It) : ByteArray := lastK l l.length
theorem keyL_snoc (l : List It) (x : It) : keyL (l ++ [x]) = x.1 := by unfold keyL; rw [List.length_append, List.length_singleton, lastK_succ]; simp

theorem itStep_eq {s pre last k m : ByteArray} {first : Bool} {a a3 a' : Nat} {e3 e4 e' : Int} (h1 : bytesR s a 0 32 = (k, a3, e3)) (h2 : e4 = if e3 ≠ 0 then e3 else if beginsR k pre = false then 18 else if first = false ∧ leB k last = true then 6 else 0)
    (h3 : bytesR s a3 e4 32 = (m, a', e')) : itStep s pre a last first = ((k, m), a', e') := by
  unfold itStep
  rw [h1]; dsimp only
  rw [← h2, h3]
def sliceLen : Value → Nat
  | .slice _ n _ => n
  | _ => 0



end
end Go.Proofs.Ytgjiedjfplbipaa
