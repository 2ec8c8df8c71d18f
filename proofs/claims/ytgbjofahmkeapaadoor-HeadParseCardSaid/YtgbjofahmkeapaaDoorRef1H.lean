/- The document's answer for what a byte is worth. -/
import Derived.Test.YtgbjofahmkeapaaDoorHexP
import Derived.Test.YtgbjofahmkeapaaDoorB0
import Derived.Test.YtgbjofahmkeapaaDoorProg
namespace Go.Proofs.YtgbjofahmkeapaaDoor
open Go.RowKit

end Go.Proofs.YtgbjofahmkeapaaDoor
