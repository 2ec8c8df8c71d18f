-- Printed by gprint.py (this place's program, over the kit's print.py); Lean checks it.
import Derived.Test.YtcpnfokpgiigcaaDoorProg
import Derived.Below
import Derived.Deep.Draws
import Derived.Deep.AppendLies
import Derived.Maps.AppendAt
import Derived.OwnWalk
import Derived.Laws.BytesArg
import Derived.Laws.MakeOwn
import Derived.Laws.OwnMore
import Derived.Deep.OwnRows
import Derived.Tactics
import Derived.Lib.ConvBytes
import Derived.Laws.Slices
import Derived.WalkKit
import Derived.KernelRfl
import Derived.RowKit3
import Derived.Deep.LoopGhost
import Derived.Deep.QuietTactic
import Derived.BigQuiet
import Derived.WideLaws
import Derived.Deep.DeepCutAuto
import Derived.Deep.CutBlock
import Derived.Deep.RegionHeld3
import Derived.Laws.Rows
import Derived.Lib.AppendStr
import Derived.ArgAppend
import Derived.Laws.IdiomCopy
import Derived.OrdersHeld
import Derived.Laws.BitsLemmas
import Derived.RowKit
import Derived.Test.YtcpnfokpgiigcaaDoorLast
import Derived.Test.YtcpnfokpgiigcaaDoorWWords
import Derived.Test.YtcpnfokpgiigcaaDoorWLast
import Derived.Test.YtcpnfokpgiigcaaDoorWTab
import Derived.Test.YtcpnfokpgiigcaaDoorWFour
import Derived.Test.YtcpnfokpgiigcaaDoorWQPut
import Derived.Test.YtcpnfokpgiigcaaDoorWApart
import Derived.Test.YtcpnfokpgiigcaaDoorWArr
import Derived.Test.YtcpnfokpgiigcaaDoorWZeros
import Derived.Test.YtcpnfokpgiigcaaDoorWFoot
import Derived.Test.YtcpnfokpgiigcaaDoorWKept
import Derived.Test.YtcpnfokpgiigcaaDoorWShare
import Derived.Test.YtcpnfokpgiigcaaDoorWN
import Derived.Test.YtcpnfokpgiigcaaDoorWFootNe
import Derived.Test.YtcpnfokpgiigcaaDoorWAt
import Derived.Test.YtcpnfokpgiigcaaDoorWEqStruct
import Derived.Test.YtcpnfokpgiigcaaDoorWRepsOne
import Derived.Test.YtcpnfokpgiigcaaDoorWInv
import Derived.Test.YtcpnfokpgiigcaaDoorWInvWords
import Derived.Test.YtcpnfokpgiigcaaDoorWGuard
import Derived.Test.YtcpnfokpgiigcaaDoorWNEv
import Derived.Test.YtcpnfokpgiigcaaDoorWMore
namespace Go.Proofs.YtcpnfokpgiigcaaDoor.D
open Go.RowKit Go.Proofs.YtcpnfokpgiigcaaDoorW.PrintWords Go.Proofs.YtcpnfokpgiigcaaDoorW.PrintLast Go.Proofs.YtcpnfokpgiigcaaDoorW.PrintMore
attribute [local go_sem] max2_int min2_int max_two min_two max_three min_three max_four min_four   -- for this text's walks alone
set_option linter.unusedVariables false
set_option linter.unusedSimpArgs false



def errW : Option Int → Value
  | none => .nilIface
  | some c => .iface 0 (.int .i64 c)
theorem errW_none : errW none = .nilIface := rfl
theorem errW_some (c : Int) : errW (some c) = .iface 0 (.int .i64 c) := rfl

theorem info5 : (Tryd.prog.info? 5).map (fun i => (i.zero, i.size, i.bytes)) = some (some (.int .u8 0), 1, 1) := by kernel_rfl
-- the values' own types

end Go.Proofs.YtcpnfokpgiigcaaDoor.D
