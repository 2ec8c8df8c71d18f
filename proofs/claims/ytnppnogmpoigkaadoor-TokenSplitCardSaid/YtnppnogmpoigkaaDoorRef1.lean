/- The document's answers of layer 1. -/
import Derived.Test.YtnppnogmpoigkaaDoorAlpha
import Derived.Test.YtnppnogmpoigkaaDoorRef1H
import Derived.Test.YtnppnogmpoigkaaDoorAscP
import Derived.Test.YtnppnogmpoigkaaDoorByteBlk
import Derived.Test.YtnppnogmpoigkaaDoorApp
import Derived.Test.YtnppnogmpoigkaaDoorEv
namespace Go.Proofs.YtnppnogmpoigkaaDoor
open Go.RowKit Go.Proofs.YtnppnogmpoigkaaDoorW.PrintWords

end Go.Proofs.YtnppnogmpoigkaaDoor
