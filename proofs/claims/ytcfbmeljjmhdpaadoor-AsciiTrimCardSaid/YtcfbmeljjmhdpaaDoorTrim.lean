/- ascii.Trim. -/
import Derived.Test.YtcfbmeljjmhdpaaDoorAscP
import Derived.Test.YtcfbmeljjmhdpaaDoorShelf
import Derived.Test.YtcfbmeljjmhdpaaDoorGood
import Derived.Test.YtcfbmeljjmhdpaaDoorEv
namespace Go.Proofs.YtcfbmeljjmhdpaaDoor
open Go.RowKit Go.Shelf Go.Lib

theorem trim_pred (w : World) : PredAt Tryd.prog 20 #[] encR pB w := fun W r _ => by
  unfold FnGives pB
  by_cases h : r ≤ 32
  · rw [decide_eq_true h]
    have hq : (r : Int) ≤ 32 := by omega
    go_enter Tryd.func20, Tryd.ntmps20
    go_wp2
    go_ret
    exact ⟨rfl, 0, rfl⟩
  · rw [decide_eq_false h]
    have hq : ¬ (r : Int) ≤ 32 := by omega
    go_enter Tryd.func20, Tryd.ntmps20
    go_wp2
    go_ret
    exact ⟨rfl, 0, rfl⟩

theorem ascii_Trim_any (s : ByteArray) (hs : s.size ≤ 140737488351232) (w : World) (hG : Good w) :
    Calls Tryd.prog 10 #[.string s] w fun e w' => e = .returned (.string ⟨(trimSp s.data.toList).toArray⟩) ∧ Below w.heap.size w w' := by
  have hC := Tryd.strings_TrimFunc 20 #[] (enters_of Tryd.func20 (by kernel_rfl) rfl) pB s w (by omega) hG.tabs (trim_pred w)
  have e : trimF pB s = ⟨(trimSp s.data.toList).toArray⟩ := toList_inj (by rw [trimF_sp, mk_toList])
  rw [e] at hC
  clear e
  go_enter Tryd.func10, Tryd.ntmps10
  go_wp2_with fail
  refine hC.mono ?_
  rintro e w1 ⟨rfl, hb⟩
  go_wp2
  go_ret
  exact ⟨rfl, hb⟩

end Go.Proofs.YtcfbmeljjmhdpaaDoor
