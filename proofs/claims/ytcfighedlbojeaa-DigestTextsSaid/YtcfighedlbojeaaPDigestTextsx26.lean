-- PRINTED BY print.sh 35421559b90ae4d0a3588c463048766b98c2df88dd9212a6774a882060cdf62d: not written by this session
import Derived.Test.YtcfighedlbojeaaPDigestTextsx0
namespace Go.Proofs.Ytcfighedlbojeaa.PDigestTexts
open Go.RowKit Go.Proofs.YtcfighedlbojeaaW.PrintWords Go.Proofs.YtcfighedlbojeaaW.PrintLast Go.Proofs.YtcfighedlbojeaaW.PrintMore
attribute [local go_sem] max2_int min2_int max_two min_two max_three min_three max_four min_four   -- for this text's walks alone
set_option linter.unusedVariables false
set_option linter.unusedSimpArgs false

/-! ### digest_Right: function 48 -/
def digest_Right.f (a0 : ByteArray) : Option (Bool) := some ((a0.size : Int) == 32)
set_option maxHeartbeats 8000000 in
set_option maxRecDepth 100000 in
theorem digest_Right.calls (a0 : ByteArray) (r : Bool) (w : World) (h : digest_Right.f a0 = some r) :
    Calls Try.prog 48 #[.string a0] w fun e w' => e = .returned (.bool r) ∧ Drawn0 w w' := by
  have H : (some ((a0.size : Int) == 32)) = some r := h
  clear h
  obtain rfl := Option.some.inj H
  go_enter Try.func48, Try.ntmps48
  go_wp2
  go_ret
  exact ⟨by first | rfl | (simp; done) | (simp [*]; done), by repeat (first | exact Drawn0.refl _ | apply Drawn0.step)⟩

end Go.Proofs.Ytcfighedlbojeaa.PDigestTexts
