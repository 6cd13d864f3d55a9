/- page.slots. -/
import Derived.Test.YtgjiedjfplbipaaPageTake
namespace Go.Proofs.Ytgjiedjfplbipaa
open Go.RowKit Go.Lib
section
/-- The last byte of some slots. -/
def lastS (l : List Sl) : Option Int := if l.length = 0 then none else some (l.getD (l.length - 1) (0, emp)).1
theorem lastS_snoc (l : List Sl) (x : Sl) : lastS (l ++ [x]) = some x.1 := by unfold lastS; rw [if_neg (by simp)]; simp
theorem slStep_eq {s m : ByteArray} {k : Int} {last : Option Int} {a a3 a' : Nat} {e3 e4 e' : Int} (h1 : byteR s a 0 = (k, a3, e3)) (h2 : e4 = if e3 ≠ 0 then e3 else if overS last k = true then 6 else 0)
    (h3 : bytesR s a3 e4 32 = (m, a', e')) : slStep s a last = ((k, m), a', e') := by
  unfold slStep
  rw [h1]; dsimp only
  rw [← h2, h3]
end
end Go.Proofs.Ytgjiedjfplbipaa
