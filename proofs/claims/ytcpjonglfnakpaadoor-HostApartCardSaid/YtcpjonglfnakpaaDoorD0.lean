-- Printed by gprint.py (this place's program, over the kit's print.py); Lean checks it.
import Derived.Test.YtcpjonglfnakpaaDoorProg
import Derived.Below
import Derived.Deep.Draws
import Derived.Deep.AppendLies
import Derived.Maps.AppendAt
import Derived.OwnWalk
import Derived.Laws.BytesArg
import Derived.Laws.MakeOwn
import Derived.Laws.OwnMore
import Derived.Deep.OwnRows
import Derived.Tactics
import Derived.Lib.ConvBytes
import Derived.Laws.Slices
import Derived.WalkKit
import Derived.KernelRfl
import Derived.RowKit3
import Derived.Deep.LoopGhost
import Derived.Deep.QuietTactic
import Derived.BigQuiet
import Derived.WideLaws
import Derived.Deep.DeepCutAuto
import Derived.Deep.CutBlock
import Derived.Deep.RegionHeld3
import Derived.Laws.Rows
import Derived.Lib.AppendStr
import Derived.ArgAppend
import Derived.Laws.IdiomCopy
import Derived.OrdersHeld
import Derived.Laws.BitsLemmas
import Derived.RowKit
import Derived.Test.YtcpjonglfnakpaaDoorMB
import Derived.Test.YtcpjonglfnakpaaDoorWWords
import Derived.Test.YtcpjonglfnakpaaDoorWLast
import Derived.Test.YtcpjonglfnakpaaDoorWTab
import Derived.Test.YtcpjonglfnakpaaDoorWFour
import Derived.Test.YtcpjonglfnakpaaDoorWQPut
import Derived.Test.YtcpjonglfnakpaaDoorWApart
import Derived.Test.YtcpjonglfnakpaaDoorWArr
import Derived.Test.YtcpjonglfnakpaaDoorWZeros
import Derived.Test.YtcpjonglfnakpaaDoorWFoot
import Derived.Test.YtcpjonglfnakpaaDoorWKept
import Derived.Test.YtcpjonglfnakpaaDoorWShare
import Derived.Test.YtcpjonglfnakpaaDoorWN
import Derived.Test.YtcpjonglfnakpaaDoorWFootNe
import Derived.Test.YtcpjonglfnakpaaDoorWAt
import Derived.Test.YtcpjonglfnakpaaDoorWEqStruct
import Derived.Test.YtcpjonglfnakpaaDoorWRepsOne
import Derived.Test.YtcpjonglfnakpaaDoorWInv
import Derived.Test.YtcpjonglfnakpaaDoorWInvWords
import Derived.Test.YtcpjonglfnakpaaDoorWGuard
import Derived.Test.YtcpjonglfnakpaaDoorWNEv
import Derived.Test.YtcpjonglfnakpaaDoorWMore
namespace Go.Proofs.YtcpjonglfnakpaaDoor.D
open Go.RowKit Go.Proofs.YtcpjonglfnakpaaDoorW.PrintWords Go.Proofs.YtcpjonglfnakpaaDoorW.PrintLast Go.Proofs.YtcpjonglfnakpaaDoorW.PrintMore
attribute [local go_sem] max2_int min2_int max_two min_two max_three min_three max_four min_four   -- for this text's walks alone
set_option linter.unusedVariables false
set_option linter.unusedSimpArgs false



def errW : Option Int → Value
  | none => .nilIface
  | some c => .iface 0 (.int .i64 c)
theorem errW_none : errW none = .nilIface := rfl
theorem errW_some (c : Int) : errW (some c) = .iface 0 (.int .i64 c) := rfl

-- the values' own types

end Go.Proofs.YtcpjonglfnakpaaDoor.D
