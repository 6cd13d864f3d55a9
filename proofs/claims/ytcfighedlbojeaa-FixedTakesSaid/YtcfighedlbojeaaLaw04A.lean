/- The law's own look. -/
import Derived.Test.YtcfighedlbojeaaRef04
namespace Go.Proofs.Ytcfighedlbojeaa
open Go.RowKit Go.Lib

theorem law04_awake (w : World) :
    Calls Try.prog 27 #[] w fun e w' => e = .returned (.bool true) ∧ Below w.heap.size w w' := by
  go_enter Try.func27, Try.ntmps27
  go_wp2_with fail
  refine (fixed_Encode 2 258 _ (by decide)).mono ?_
  rw [show fixEnc 2 258 = (⟨#[1, 2]⟩, 0) from by decide]
  rintro e w1 ⟨rfl, hb1⟩
  go_wp2
  go_ret
  exact ⟨rfl, hb1⟩

end Go.Proofs.Ytcfighedlbojeaa
