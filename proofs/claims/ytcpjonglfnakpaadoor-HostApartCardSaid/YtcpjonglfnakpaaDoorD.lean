-- Printed by gprint.py (this place's program, over the kit's print.py); Lean checks it.
import Derived.Test.YtcpjonglfnakpaaDoorD0
import Derived.Test.YtcpjonglfnakpaaDoorD1
namespace Go.Proofs.YtcpjonglfnakpaaDoor.D
open Go.RowKit Go.Proofs.YtcpjonglfnakpaaDoorW.PrintWords Go.Proofs.YtcpjonglfnakpaaDoorW.PrintLast Go.Proofs.YtcpjonglfnakpaaDoorW.PrintMore
attribute [local go_sem] max2_int min2_int max_two min_two max_three min_three max_four min_four   -- for this text's walks alone
set_option linter.unusedVariables false
set_option linter.unusedSimpArgs false

end Go.Proofs.YtcpjonglfnakpaaDoor.D
