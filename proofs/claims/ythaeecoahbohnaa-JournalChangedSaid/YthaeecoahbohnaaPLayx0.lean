-- Written by a program of this session (a patched copy of the kit's print); not trusted: Lean checks it.
import Derived.Test.YthaeecoahbohnaaProg
import Derived.Below
import Derived.Deep.Draws
import Derived.Deep.AppendLies
import Derived.Maps.AppendAt
import Derived.OwnWalk
import Derived.Laws.BytesArg
import Derived.Laws.MakeOwn
import Derived.Laws.OwnMore
import Derived.Deep.OwnRows
import Derived.Tactics
import Derived.Lib.ConvBytes
import Derived.Laws.Slices
import Derived.WalkKit
import Derived.KernelRfl
import Derived.RowKit3
import Derived.Deep.LoopGhost
import Derived.Deep.QuietTactic
import Derived.BigQuiet
import Derived.WideLaws
import Derived.Deep.DeepCutAuto
import Derived.Deep.CutBlock
import Derived.Deep.RegionHeld3
import Derived.Laws.Rows
import Derived.Lib.AppendStr
import Derived.ArgAppend
import Derived.Laws.IdiomCopy
import Derived.OrdersHeld
import Derived.Laws.BitsLemmas
import Derived.RowKit
import Derived.Test.YthaeecoahbohnaaWWords
import Derived.Test.YthaeecoahbohnaaWLast
import Derived.Test.YthaeecoahbohnaaWTab
import Derived.Test.YthaeecoahbohnaaWFour
import Derived.Test.YthaeecoahbohnaaWQPut
import Derived.Test.YthaeecoahbohnaaWApart
import Derived.Test.YthaeecoahbohnaaWArr
import Derived.Test.YthaeecoahbohnaaWZeros
import Derived.Test.YthaeecoahbohnaaWFoot
import Derived.Test.YthaeecoahbohnaaWKept
import Derived.Test.YthaeecoahbohnaaWShare
import Derived.Test.YthaeecoahbohnaaWN
import Derived.Test.YthaeecoahbohnaaWFootNe
import Derived.Test.YthaeecoahbohnaaWAt
import Derived.Test.YthaeecoahbohnaaWEqStruct
import Derived.Test.YthaeecoahbohnaaWRepsOne
import Derived.Test.YthaeecoahbohnaaWInv
import Derived.Test.YthaeecoahbohnaaWInvWords
import Derived.Test.YthaeecoahbohnaaWGuard
import Derived.Test.YthaeecoahbohnaaWNEv
import Derived.Test.YthaeecoahbohnaaWMore
import Derived.Laws.IdiomStrings
import Derived.Test.YthaeecoahbohnaaSum
import Derived.Test.YthaeecoahbohnaaStep
namespace Go.Proofs.Ythaeecoahbohnaa.PLay
open Go.RowKit Go.Proofs.YthaeecoahbohnaaW.PrintWords Go.Proofs.YthaeecoahbohnaaW.PrintLast Go.Proofs.YthaeecoahbohnaaW.PrintMore
attribute [local go_sem] max2_int min2_int max_two min_two max_three min_three max_four min_four   -- for this text's walks alone
set_option linter.unusedVariables false
set_option linter.unusedSimpArgs false



def errW : Option Int → Value
  | none => .nilIface
  | some c => .iface 0 (.int .i64 c)
theorem errW_none : errW none = .nilIface := rfl
theorem errW_some (c : Int) : errW (some c) = .iface 0 (.int .i64 c) := rfl

theorem info3 : (Try.prog.info? 3).map (fun i => (i.zero, i.size, i.bytes)) = some (some (.int .i64 0), 1, 8) := by kernel_rfl
theorem info5 : (Try.prog.info? 5).map (fun i => (i.zero, i.size, i.bytes)) = some (some (.int .u8 0), 1, 1) := by kernel_rfl
-- the values' own types

end Go.Proofs.Ythaeecoahbohnaa.PLay
