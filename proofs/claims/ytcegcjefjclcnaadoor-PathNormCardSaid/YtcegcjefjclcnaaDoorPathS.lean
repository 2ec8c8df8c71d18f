/- path.split. -/
import Derived.Test.YtcegcjefjclcnaaDoorPut
import Derived.Test.YtcegcjefjclcnaaDoorStrs
import Derived.Test.YtcegcjefjclcnaaDoorPathP
import Derived.Test.YtcegcjefjclcnaaDoorGood
namespace Go.Proofs.YtcegcjefjclcnaaDoor
open Go.RowKit Go.Proofs.YtcegcjefjclcnaaDoorW.PrintWords

/-- A block of texts. -/
def StrRow (w : World) (b : Nat) (T : TypeId) (l : List (List UInt8)) : Prop := w.heap[b]? = some (.cells (strs l).toArray T (0, 0))
theorem StrRow.cell {w : World} {b : Nat} {T : TypeId} {l : List (List UInt8)} (h : StrRow w b T l) {k : Nat} {x : List UInt8} (hk : l[k]? = some x) : w.cell? ⟨b, k, none⟩ = some (.string ⟨x.toArray⟩) := by
  rw [cell_of_row w b k _ T _ h]; simp [strs, hk]
theorem StrRow.lt {w : World} {b : Nat} {T : TypeId} {l : List (List UInt8)} (h : StrRow w b T l) : b < w.heap.size := lt_of_block h
theorem StrRow.below {w w' : World} {b : Nat} {T : TypeId} {l : List (List UInt8)} (h : StrRow w b T l) {B : Nat} (hb : Below B w w') (hlt : b < B) : StrRow w' b T l := block_below h hb hlt

def trimSlash (l : List UInt8) : List UInt8 := Lib.trimPrefix l [47]
/-- A path's segments, encoded. -/
def pathSplit (l : List UInt8) : List (List UInt8) := splitOn 47 (encode3 (trimSlash l))
theorem trimSlash_len (l : List UInt8) : (trimSlash l).length ≤ l.length := by
  unfold trimSlash Lib.trimPrefix; split
  · rw [List.length_drop]; omega
  · exact Nat.le_refl _

set_option maxHeartbeats 1000000 in
theorem path_split_any (s : ByteArray) (hs : s.size ≤ 1000000) (w : World) (hG : Good w) :
    Calls Tryd.prog 19 #[.string s] w fun e w' => ∃ g, e = .returned (.slice (some ⟨g, 0, none⟩) (pathSplit s.data.toList).length (pathSplit s.data.toList).length) ∧ StrRow w' g 9 (pathSplit s.data.toList) ∧ w.heap.size ≤ g ∧ Below w.heap.size w w' := by
  have h1 := Tryd.strings_TrimPrefix s ⟨#[47]⟩ w
  have e1 : Lib.trimPrefix s.data.toList (⟨#[47]⟩ : ByteArray).data.toList = trimSlash s.data.toList := rfl
  rw [e1] at h1
  have hl1 := trimSlash_len s.data.toList
  rw [← size_list] at hl1
  have h2 := pct_Encode3 ⟨(trimSlash s.data.toList).toArray⟩ (by show (trimSlash s.data.toList).length ≤ _; omega) w
  rw [mk_toList] at h2
  have hl2 := encB_len set3 (trimSlash s.data.toList)
  have h3 := fun w1 (hG1 : Good w1) => split_any 47 ⟨(encode3 (trimSlash s.data.toList)).toArray⟩ (by show (encB set3 (trimSlash s.data.toList)).length < _; omega) w1 hG1
  simp only [mk_toList] at h3
  change ∀ w1, Good w1 → Calls _ _ _ w1 (fun e w' => e = .returned (.slice (some ⟨w1.heap.size, 0, none⟩) (pathSplit s.data.toList).length (pathSplit s.data.toList).length) ∧ w' = w1.alloc (.cells (strs (pathSplit s.data.toList)).toArray 9)) at h3
  generalize pathSplit s.data.toList = L at *
  go_enter Tryd.func19, Tryd.ntmps19
  go_wp2_with fail
  refine h1.mono ?_
  rintro e w0 ⟨rfl, rfl⟩
  go_wp2_with fail
  refine h2.mono ?_
  rintro e w1 ⟨rfl, hb1⟩
  go_wp2_with fail
  refine (h3 w1 (hG.below hb1)).mono ?_
  rintro e w2 ⟨rfl, rfl⟩
  go_wp2
  go_ret
  exact ⟨_, rfl, heap_alloc_new w1 _, hb1.size, hb1.alloc hb1.size _⟩

end Go.Proofs.YtcegcjefjclcnaaDoor
