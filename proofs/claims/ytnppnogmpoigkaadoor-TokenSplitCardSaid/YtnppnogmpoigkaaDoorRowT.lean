/- What a row's start gives: the variables hold what the walks ask. -/
import Derived.Test.YtnppnogmpoigkaaDoorGood
import Derived.Test.YtnppnogmpoigkaaDoorShelf
import Derived.Test.YtnppnogmpoigkaaDoorRows
import Derived.Test.YtnppnogmpoigkaaDoorEv
import Derived.SizedLaws
import Derived.LaidMore
import Derived.Lib.LaidU8
namespace Go.Proofs.YtnppnogmpoigkaaDoor
open Go.RowKit Go.Lib

theorem first_data : Rows.laid_unicode_utf8_first = firstData := by kernel_rfl
theorem accept_data : (Rows.laid_unicode_utf8_acceptRanges : DataW Unit) = acceptData := by kernel_rfl
theorem names_data : Rows.laid_postmark_token_names = (.agg (polN.map fun s => .lit (.string s)) : DataW Unit) := by kernel_rfl
theorem cells_str2 : Tryd.prog.cellsOf 9 = 1 := by kernel_rfl
theorem names_at {W : World} (h : VarReads Tryd.prog W "postmark/token.names" (.agg (polN.map fun s => .lit (.string s)))) (k : Nat) (s : List UInt8) (hs : polN[k]? = some s) : W.cell? ⟨0, k, none⟩ = some (.string ⟨s.toArray⟩) := by
  obtain ⟨g, t, cs, fuel, p, hn, ht, hv, hr⟩ := h
  obtain rfl : 0 = g := Option.some.inj ((show Tryd.prog.globalNamed "postmark/token.names" = some 0 by kernel_rfl).symm.trans hn)
  obtain rfl : 44 = t := Option.some.inj ((show (Tryd.prog.globals[0]?).map (·.type) = some 44 by kernel_rfl).symm.trans ht)
  have hk : k < 9 := (List.getElem?_eq_some_iff.1 hs).1
  obtain ⟨fuel', d, q, hd, he⟩ := array_elem Tryd.underlying44 hr k hk
  rw [List.getElem?_map, hs] at hd
  obtain rfl : DataW.lit (.string s) = d := Option.some.inj hd
  rw [cells_str2, Nat.mul_one] at he
  obtain ⟨s0, e0, hx, _⟩ := DataW.trod_string Tryd.underlying9 he
  have hs0 : s = s0.data.toList := by
    have := congrArg Prod.fst hx
    simpa using this
  have hc := World.var?_cell hn hv k
  have hck : cs[k]? = some (.string s0) := by
    have := congrArg (·[0]?) e0
    simpa [List.getElem?_take, List.getElem?_drop] using this
  rw [hck] at hc
  rw [hc, hs0, of_toList]
theorem good_of {W : World} {laid : List (String × DataW Unit)} (hsh : W.ShapedOpen Tryd.prog) (hL : laidMetH Tryd.prog laid W) (he : laid = [("unicode/utf8.acceptRanges", Rows.laid_unicode_utf8_acceptRanges), ("postmark/token.names", Rows.laid_postmark_token_names), ("unicode/utf8.first", Rows.laid_unicode_utf8_first)] := by rfl) : Good W := by
  subst he
  rw [MakeChecks.laidMetH_plain _ _ _ (by kernel_rfl)] at hL
  have h1 := Lib.laidMet.reads hL (.tail _ (.tail _ (.head _)))
  have h2 := Lib.laidMet.reads hL (.head _)
  have h3 := Lib.laidMet.reads hL (.tail _ (.head _))
  rw [names_data] at h3
  rw [first_data] at h1
  rw [accept_data] at h2
  exact ⟨Tryd.laysM146.s1_3 W hsh, utf8Tabs_of_reads (Tryd.lays260) ⟨by kernel_rfl, by kernel_rfl, by kernel_rfl, by kernel_rfl, by kernel_rfl, by kernel_rfl, by kernel_rfl⟩ h1 h2, names_at h3⟩

end Go.Proofs.YtnppnogmpoigkaaDoor
