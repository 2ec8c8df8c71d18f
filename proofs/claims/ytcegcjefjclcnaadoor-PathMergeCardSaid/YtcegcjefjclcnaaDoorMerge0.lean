/- path.Merge beside nothing. -/
import Derived.Test.YtcegcjefjclcnaaDoorConcat
namespace Go.Proofs.YtcegcjefjclcnaaDoor
open Go.RowKit Go.Proofs.YtcegcjefjclcnaaDoorW.PrintWords

set_option maxHeartbeats 4000000 in
set_option maxRecDepth 100000 in
theorem path_Merge_nil (s : ByteArray) (hs : s.size ≤ 100000) (w : World) (hG : Good w) :
    Calls Tryd.prog 17 #[.slice none 0 0, .string s] w fun e w' => ∃ v, e = .returned v ∧ w'.ownsRow w.heap.size 9 1 v (mergeL [] s.data.toList).length (strs (mergeL [] s.data.toList)) ∧ Below w.heap.size w w' := by
  have h1 := path_split_any s (by omega) w.drew hG.drew
  have hw0 : IntKind.i64.wrap (-1 : Int) = -1 := by rw [IntKind.wrap_i64]; omega
  have hmx : max (0 : Int) (-1 : Int) = 0 := by omega
  have hsm := pathSplit_small (l := s.data.toList) (by rw [← size_list]; omega)
  have hm : mergeL [] s.data.toList = normL ([] ++ pathSplit s.data.toList) := rfl
  rw [hm]
  clear hm
  generalize pathSplit s.data.toList = L at *
  go_enter Tryd.func17, Tryd.ntmps17
  go_wp2_with fail
  have HSM := Lib.hid hsm
  clear hsm
  have hT : Texts w.heap.size w (.slice none 0 0) [] := .inl ⟨rfl, rfl⟩
  go_region_with (first
    | (go_at_call 19; refine h1.mono ?_; rintro e w1 ⟨g, rfl, hrow, hg, hb1⟩; have hbw := (Below.refl w.heap.size w).drew.trans hb1)
    | (go_at_call 30; refine (Concat_two _ _ [] L (by simp) (by have := HSM.out.1; omega) w1.heap.size _ (heap_alloc_new w1 _) (.inl ⟨rfl, rfl⟩) (texts_row (block_alloc hrow _) (by have := hrow.lt; simp; omega))).mono ?_; rintro e w2 ⟨v2, rfl, ho2, hb2⟩; have hbw2 := below_on (hbw.alloc hbw.size _) (hbw.alloc hbw.size _).size hb2)
    | (go_at_call 15; refine (path_Norm_any v2 ([] ++ L) (by have := HSM.out.1; simp; omega) (by simpa using HSM.out.2) w2 (texts_own ho2 (Nat.le_refl _)).1 (texts_own ho2 (Nat.le_refl _)).2).mono ?_; rintro e w3 ⟨v3, rfl, ho3, hb3⟩))
  all_goals go_wp2
  all_goals go_ret
  all_goals exact ⟨v3, rfl, ownsRow_mono ho3 hbw2.size, below_on hbw2 hbw2.size hb3⟩

end Go.Proofs.YtcegcjefjclcnaaDoor
