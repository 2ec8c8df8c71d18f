/- The document's answer for what a byte is worth. -/
import Derived.Test.YtnppnogmpoigkaaDoorHexP
import Derived.Test.YtnppnogmpoigkaaDoorB0
import Derived.Test.YtnppnogmpoigkaaDoorProg
namespace Go.Proofs.YtnppnogmpoigkaaDoor
open Go.RowKit

end Go.Proofs.YtnppnogmpoigkaaDoor
