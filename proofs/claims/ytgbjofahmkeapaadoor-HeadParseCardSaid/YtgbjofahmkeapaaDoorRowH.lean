/- What a row's start gives: the variables hold what the walks ask. -/
import Derived.Test.YtgbjofahmkeapaaDoorGood
import Derived.Test.YtgbjofahmkeapaaDoorShelf
import Derived.Test.YtgbjofahmkeapaaDoorRows
import Derived.SizedLaws
import Derived.LaidMore
import Derived.Lib.LaidU8
namespace Go.Proofs.YtgbjofahmkeapaaDoor
open Go.RowKit Go.Lib

theorem first_data : Rows.laid_unicode_utf8_first = firstData := by kernel_rfl
theorem accept_data : (Rows.laid_unicode_utf8_acceptRanges : DataW Unit) = acceptData := by kernel_rfl
theorem good_of {W : World} {laid : List (String × DataW Unit)} (hsh : W.ShapedOpen Tryd.prog) (hL : laidMetH Tryd.prog laid W) (he : laid = [("unicode/utf8.acceptRanges", Rows.laid_unicode_utf8_acceptRanges), ("unicode/utf8.first", Rows.laid_unicode_utf8_first)] := by rfl) : Good W := by
  subst he
  rw [MakeChecks.laidMetH_plain _ _ _ (by kernel_rfl)] at hL
  have h1 := Lib.laidMet.reads hL (.tail _ (.head _))
  have h2 := Lib.laidMet.reads hL (.head _)
  rw [first_data] at h1
  rw [accept_data] at h2
  exact ⟨Tryd.laysM145.s1_3 W hsh, utf8Tabs_of_reads (Tryd.lays260) ⟨by kernel_rfl, by kernel_rfl, by kernel_rfl, by kernel_rfl, by kernel_rfl, by kernel_rfl, by kernel_rfl⟩ h1 h2⟩

end Go.Proofs.YtgbjofahmkeapaaDoor
