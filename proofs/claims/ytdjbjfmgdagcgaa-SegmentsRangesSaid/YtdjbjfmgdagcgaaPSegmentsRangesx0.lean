-- PRINTED BY print.sh 35421559b90ae4d0a3588c463048766b98c2df88dd9212a6774a882060cdf62d: not written by this session
import Derived.Test.YtdjbjfmgdagcgaaProg
import Derived.Below
import Derived.Deep.Draws
import Derived.Deep.AppendLies
import Derived.Maps.AppendAt
import Derived.OwnWalk
import Derived.Laws.BytesArg
import Derived.Laws.MakeOwn
import Derived.Laws.OwnMore
import Derived.Deep.OwnRows
import Derived.Tactics
import Derived.Lib.ConvBytes
import Derived.Laws.Slices
import Derived.WalkKit
import Derived.KernelRfl
import Derived.RowKit3
import Derived.Deep.LoopGhost
import Derived.Deep.QuietTactic
import Derived.BigQuiet
import Derived.WideLaws
import Derived.Deep.DeepCutAuto
import Derived.Deep.CutBlock
import Derived.Deep.RegionHeld3
import Derived.Laws.Rows
import Derived.Lib.AppendStr
import Derived.ArgAppend
import Derived.Laws.IdiomCopy
import Derived.OrdersHeld
import Derived.Laws.BitsLemmas
import Derived.RowKit
import Derived.Test.YtdjbjfmgdagcgaaWWords
import Derived.Test.YtdjbjfmgdagcgaaWLast
import Derived.Test.YtdjbjfmgdagcgaaWTab
import Derived.Test.YtdjbjfmgdagcgaaWFour
import Derived.Test.YtdjbjfmgdagcgaaWQPut
import Derived.Test.YtdjbjfmgdagcgaaWApart
import Derived.Test.YtdjbjfmgdagcgaaWArr
import Derived.Test.YtdjbjfmgdagcgaaWZeros
import Derived.Test.YtdjbjfmgdagcgaaWFoot
import Derived.Test.YtdjbjfmgdagcgaaWKept
import Derived.Test.YtdjbjfmgdagcgaaWShare
import Derived.Test.YtdjbjfmgdagcgaaWN
import Derived.Test.YtdjbjfmgdagcgaaWFootNe
import Derived.Test.YtdjbjfmgdagcgaaWAt
import Derived.Test.YtdjbjfmgdagcgaaWEqStruct
import Derived.Test.YtdjbjfmgdagcgaaWRepsOne
import Derived.Test.YtdjbjfmgdagcgaaWInv
import Derived.Test.YtdjbjfmgdagcgaaWInvWords
import Derived.Test.YtdjbjfmgdagcgaaWGuard
import Derived.Test.YtdjbjfmgdagcgaaWNEv
import Derived.Test.YtdjbjfmgdagcgaaWMore
namespace Go.Proofs.Ytdjbjfmgdagcgaa.PSegmentsRanges
open Go.RowKit Go.Proofs.YtdjbjfmgdagcgaaW.PrintWords Go.Proofs.YtdjbjfmgdagcgaaW.PrintLast Go.Proofs.YtdjbjfmgdagcgaaW.PrintMore
attribute [local go_sem] max2_int min2_int max_two min_two max_three min_three max_four min_four   -- for this text's walks alone
set_option linter.unusedVariables false
set_option linter.unusedSimpArgs false



def errW : Option Int → Value
  | none => .nilIface
  | some c => .iface 0 (.int .i64 c)
theorem errW_none : errW none = .nilIface := rfl
theorem errW_some (c : Int) : errW (some c) = .iface 0 (.int .i64 c) := rfl

theorem info4 : (Try.prog.info? 4).map (fun i => (i.zero, i.size, i.bytes)) = some (some (.bool false), 1, 1) := by kernel_rfl
-- the values' own types

end Go.Proofs.Ytdjbjfmgdagcgaa.PSegmentsRanges
