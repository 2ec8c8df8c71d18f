/- What a row's start gives: the variables hold what the walks ask. -/
import Derived.Test.YtcpnfokpgiigcaaDoorGood
import Derived.Test.YtcpnfokpgiigcaaDoorShelf
import Derived.SizedLaws
import Derived.LaidMore
namespace Go.Proofs.YtcpnfokpgiigcaaDoor
open Go.RowKit

theorem good_of {W : World} {laid : List (String × DataW Unit)} (hsh : W.ShapedOpen Tryd.prog) (_hL : laidMetH Tryd.prog laid W) : Good W := ⟨Tryd.laysM146.s1_3 W hsh⟩

end Go.Proofs.YtcpnfokpgiigcaaDoor
