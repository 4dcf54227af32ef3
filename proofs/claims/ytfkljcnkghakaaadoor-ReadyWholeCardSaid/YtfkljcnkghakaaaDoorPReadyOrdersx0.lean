-- PRINTED BY print.sh 35421559b90ae4d0a3588c463048766b98c2df88dd9212a6774a882060cdf62d: not written by this session
import Derived.Test.YtfkljcnkghakaaaDoorProg
import Derived.Below
import Derived.Deep.Draws
import Derived.Deep.AppendLies
import Derived.Maps.AppendAt
import Derived.OwnWalk
import Derived.Laws.BytesArg
import Derived.Laws.MakeOwn
import Derived.Laws.OwnMore
import Derived.Deep.OwnRows
import Derived.Tactics
import Derived.Lib.ConvBytes
import Derived.Laws.Slices
import Derived.WalkKit
import Derived.KernelRfl
import Derived.RowKit3
import Derived.Deep.LoopGhost
import Derived.Deep.QuietTactic
import Derived.BigQuiet
import Derived.WideLaws
import Derived.Deep.DeepCutAuto
import Derived.Deep.CutBlock
import Derived.Deep.RegionHeld3
import Derived.Laws.Rows
import Derived.Lib.AppendStr
import Derived.ArgAppend
import Derived.Laws.IdiomCopy
import Derived.OrdersHeld
import Derived.Laws.BitsLemmas
import Derived.RowKit
import Derived.Test.YtfkljcnkghakaaaDoorWWords
import Derived.Test.YtfkljcnkghakaaaDoorWLast
import Derived.Test.YtfkljcnkghakaaaDoorWTab
import Derived.Test.YtfkljcnkghakaaaDoorWFour
import Derived.Test.YtfkljcnkghakaaaDoorWQPut
import Derived.Test.YtfkljcnkghakaaaDoorWApart
import Derived.Test.YtfkljcnkghakaaaDoorWArr
import Derived.Test.YtfkljcnkghakaaaDoorWZeros
import Derived.Test.YtfkljcnkghakaaaDoorWFoot
import Derived.Test.YtfkljcnkghakaaaDoorWKept
import Derived.Test.YtfkljcnkghakaaaDoorWShare
import Derived.Test.YtfkljcnkghakaaaDoorWN
import Derived.Test.YtfkljcnkghakaaaDoorWFootNe
import Derived.Test.YtfkljcnkghakaaaDoorWAt
import Derived.Test.YtfkljcnkghakaaaDoorWEqStruct
import Derived.Test.YtfkljcnkghakaaaDoorWRepsOne
import Derived.Test.YtfkljcnkghakaaaDoorWInv
import Derived.Test.YtfkljcnkghakaaaDoorWInvWords
import Derived.Test.YtfkljcnkghakaaaDoorWGuard
import Derived.Test.YtfkljcnkghakaaaDoorWNEv
import Derived.Test.YtfkljcnkghakaaaDoorWMore
namespace Go.Proofs.YtfkljcnkghakaaaDoor.PReadyOrders
open Go.RowKit Go.Proofs.YtfkljcnkghakaaaDoorW.PrintWords Go.Proofs.YtfkljcnkghakaaaDoorW.PrintLast Go.Proofs.YtfkljcnkghakaaaDoorW.PrintMore
attribute [local go_sem] max2_int min2_int max_two min_two max_three min_three max_four min_four   -- for this text's walks alone
set_option linter.unusedVariables false
set_option linter.unusedSimpArgs false



def errW : Option Int → Value
  | none => .nilIface
  | some c => .iface 0 (.int .i64 c)
theorem errW_none : errW none = .nilIface := rfl
theorem errW_some (c : Int) : errW (some c) = .iface 0 (.int .i64 c) := rfl

theorem info3 : (Tryd.prog.info? 3).map (fun i => (i.zero, i.size, i.bytes)) = some (some (.int .i64 0), 1, 8) := by kernel_rfl
theorem info4 : (Tryd.prog.info? 4).map (fun i => (i.zero, i.size, i.bytes)) = some (some (.bool false), 1, 1) := by kernel_rfl
theorem info28 : (Tryd.prog.info? 28).map (fun i => (i.zero, i.size, i.bytes)) = some (some (.int .u32 0), 1, 4) := by kernel_rfl
-- the values' own types

end Go.Proofs.YtfkljcnkghakaaaDoor.PReadyOrders
