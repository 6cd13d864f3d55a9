-- PRINTED BY print.sh 35421559b90ae4d0a3588c463048766b98c2df88dd9212a6774a882060cdf62d: not written by this session
import Derived.Test.YtcfighedlbojeaaProg
import Derived.Below
import Derived.Deep.Draws
import Derived.Deep.AppendLies
import Derived.Maps.AppendAt
import Derived.OwnWalk
import Derived.Laws.BytesArg
import Derived.Laws.MakeOwn
import Derived.Laws.OwnMore
import Derived.Deep.OwnRows
import Derived.Tactics
import Derived.Lib.ConvBytes
import Derived.Laws.Slices
import Derived.WalkKit
import Derived.KernelRfl
import Derived.RowKit3
import Derived.Deep.LoopGhost
import Derived.Deep.QuietTactic
import Derived.BigQuiet
import Derived.WideLaws
import Derived.Deep.DeepCutAuto
import Derived.Deep.CutBlock
import Derived.Deep.RegionHeld3
import Derived.Laws.Rows
import Derived.Lib.AppendStr
import Derived.ArgAppend
import Derived.Laws.IdiomCopy
import Derived.OrdersHeld
import Derived.Laws.BitsLemmas
import Derived.RowKit
import Derived.Test.YtcfighedlbojeaaWWords
import Derived.Test.YtcfighedlbojeaaWLast
import Derived.Test.YtcfighedlbojeaaWTab
import Derived.Test.YtcfighedlbojeaaWFour
import Derived.Test.YtcfighedlbojeaaWQPut
import Derived.Test.YtcfighedlbojeaaWApart
import Derived.Test.YtcfighedlbojeaaWArr
import Derived.Test.YtcfighedlbojeaaWZeros
import Derived.Test.YtcfighedlbojeaaWFoot
import Derived.Test.YtcfighedlbojeaaWKept
import Derived.Test.YtcfighedlbojeaaWShare
import Derived.Test.YtcfighedlbojeaaWN
import Derived.Test.YtcfighedlbojeaaWFootNe
import Derived.Test.YtcfighedlbojeaaWAt
import Derived.Test.YtcfighedlbojeaaWEqStruct
import Derived.Test.YtcfighedlbojeaaWRepsOne
import Derived.Test.YtcfighedlbojeaaWInv
import Derived.Test.YtcfighedlbojeaaWInvWords
import Derived.Test.YtcfighedlbojeaaWGuard
import Derived.Test.YtcfighedlbojeaaWNEv
import Derived.Test.YtcfighedlbojeaaWMore
namespace Go.Proofs.Ytcfighedlbojeaa.PDigestTexts
open Go.RowKit Go.Proofs.YtcfighedlbojeaaW.PrintWords Go.Proofs.YtcfighedlbojeaaW.PrintLast Go.Proofs.YtcfighedlbojeaaW.PrintMore
attribute [local go_sem] max2_int min2_int max_two min_two max_three min_three max_four min_four   -- for this text's walks alone
set_option linter.unusedVariables false
set_option linter.unusedSimpArgs false



def errW : Option Int → Value
  | none => .nilIface
  | some c => .iface 0 (.int .i64 c)
theorem errW_none : errW none = .nilIface := rfl
theorem errW_some (c : Int) : errW (some c) = .iface 0 (.int .i64 c) := rfl

theorem info5 : (Try.prog.info? 5).map (fun i => (i.zero, i.size, i.bytes)) = some (some (.int .u8 0), 1, 1) := by kernel_rfl
-- the values' own types

end Go.Proofs.Ytcfighedlbojeaa.PDigestTexts
