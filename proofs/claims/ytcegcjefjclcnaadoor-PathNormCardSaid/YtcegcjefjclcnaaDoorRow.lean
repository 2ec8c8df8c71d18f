/- What a row's start gives: the variables hold what the walks ask. -/
import Derived.Test.YtcegcjefjclcnaaDoorGood
import Derived.Test.YtcegcjefjclcnaaDoorShelf
import Derived.SizedLaws
import Derived.LaidMore
namespace Go.Proofs.YtcegcjefjclcnaaDoor
open Go.RowKit

theorem good_of {W : World} {laid : List (String × DataW Unit)} (hsh : W.ShapedOpen Tryd.prog) (_hL : laidMetH Tryd.prog laid W) : Good W := ⟨Tryd.laysM146.s1_3 W hsh⟩

end Go.Proofs.YtcegcjefjclcnaaDoor
