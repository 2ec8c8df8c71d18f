/- The laws of layer 8 (path): their example. -/
import Derived.Test.YtcegcjefjclcnaaDoorConcat
import Derived.Test.YtcegcjefjclcnaaDoorShow
import Derived.Test.YtcegcjefjclcnaaDoorMay
import Derived.Test.YtcegcjefjclcnaaDoorRow
namespace Go.Proofs.YtcegcjefjclcnaaDoor
open Go.RowKit Go.Proofs.YtcegcjefjclcnaaDoorW.PrintWords

theorem parse8a : parseL [47, 97, 47, 46, 47, 98, 47, 46, 46, 47, 99] = [[97], [99]] := by decide +kernel
theorem parse8b : parseL [47, 97, 47, 46, 46] = [[]] := by decide +kernel
theorem merge8 : mergeL [[97], [99]] [100] = [[97], [100]] := by decide +kernel
theorem show8 : showL [[97], [99]] = [47, 97, 47, 99] := by decide +kernel
theorem may8 : mayL [[97], [99]] = true := by decide +kernel
theorem dots8 : dotsN [37, 50, 69, 46] = 2 := by decide +kernel
theorem norm8 : normL [[46], [97]] = [[97]] := by decide +kernel

/-- A list of one's own that is not empty, as a slice. -/
theorem own_some {w : World} {B n : Nat} {v : Value} {xs : List Value} (h : w.ownsRow B 9 1 v (n + 1) xs) : ∃ g cap, v = .slice (some ⟨g, 0, none⟩) (n + 1) cap ∧ n + 1 ≤ cap := by
  rcases h.2 with ⟨_, h0⟩ | ⟨g, cap, cur, hv, _, _, hn, _⟩
  · omega
  · exact ⟨g, cap, hv, hn⟩
theorem own_cell {w : World} {B g cap k : Nat} {L : List (List UInt8)} {x : List UInt8} (h : w.ownsRow B 9 1 (.slice (some ⟨g, 0, none⟩) L.length cap) L.length (strs L)) (hx : L[k]? = some x) : w.cell? ⟨g, k, none⟩ = some (.string ⟨x.toArray⟩) := by
  have hlt : k < L.length := (List.getElem?_eq_some_iff.1 hx).1
  have := h.cellAt k (show k < L.length * 1 by omega)
  rw [this]
  simp [strs, hx]

set_option maxHeartbeats 4000000 in
set_option maxRecDepth 100000 in
theorem awake8 {w0 w : World} (hk : Ok w0 w) : Calls Tryd.prog 9 #[] w fun e w' => e = .returned (.bool true) ∧ Ok w0 w' := by
  have c1 := path_Parse_any ⟨#[47, 97, 47, 46, 47, 98, 47, 46, 46, 47, 99]⟩ (by decide) w hk.good
  have c2 := fun w hG => path_Parse_any ⟨#[47, 97, 47, 46, 46]⟩ (by decide) w hG
  simp only [parse8a, parse8b] at c1 c2
  go_enter Tryd.func9, Tryd.ntmps9
  go_wp2_with fail
  refine c1.mono ?_
  rintro e w1 ⟨v1, rfl, ho1, hb1⟩
  have hk1 := hk.step hb1
  obtain ⟨g1, p1, rfl, hp1⟩ := own_some (n := 1) ho1
  go_wp2_with fail
  refine (c2 w1 hk1.good).mono ?_
  rintro e w2 ⟨v2, rfl, ho2, hb2⟩
  have hk2 := hk1.step hb2
  obtain ⟨g2, p2, rfl, hp2⟩ := own_some (n := 0) ho2
  have ho12 := row_below ho1 hb2
  clear c1 c2 ho1
  have hT1 : Texts w2.heap.size w2 (.slice (some ⟨g1, 0, none⟩) 1 p1) [[97]] := .inr ⟨g1, 0, p1, rfl, (ho12.lt g1 rfl).2, fun j x hj => by
    rw [Nat.zero_add]
    refine own_cell (L := [[97], [99]]) ho12 ?_
    match j, hj with
    | 0, hj => exact hj⟩
  have c3 := path_Merge_some g1 0 1 p1 [[97], [99]] rfl (by omega) (by decide) ⟨#[100]⟩ (by decide) w2 hk2.good hT1 hp1
  simp only [merge8] at c3
  clear hT1
  go_wp2_with fail
  refine c3.mono ?_
  rintro e w3 ⟨v3, rfl, ho3, hb3⟩
  have hk3 := hk2.step hb3
  obtain ⟨g3, p3, rfl, hp3⟩ := own_some (n := 1) ho3
  have ho13 := row_below ho12 hb3
  have ho23 := row_below ho2 hb3
  clear c3 ho12 ho2
  have d1 := own_cell (k := 1) (L := [[97], [99]]) ho13 rfl
  have d2 := own_cell (k := 0) (L := [[]]) ho23 rfl
  have c4 := path_Show_any _ [[97], [99]] (by decide) (by decide) w3 (texts_own ho13 (Nat.le_refl _)).1 rfl
  rw [show8] at c4
  go_wp2_with fail
  refine c4.mono ?_
  rintro e w4 ⟨rfl, hb4⟩
  have hk4 := hk3.step hb4
  have ho14 := row_below ho13 hb4
  have c5 := path_May_any _ [[97], [99]] (by decide) (by decide) w4 (texts_own ho14 (Nat.le_refl _)).1
  rw [may8] at c5
  clear c4 d1 d2
  go_wp2_with fail
  refine c5.mono ?_
  rintro e w5 ⟨rfl, hb5⟩
  have hk5 := hk4.step hb5
  have c6 := path_Dots_any ⟨#[37, 50, 69, 46]⟩ (by decide) w5
  simp only [dots8] at c6
  clear c5
  go_wp2_with fail
  refine c6.mono ?_
  rintro e w6 ⟨rfl, hb6⟩
  have hk6 := hk5.step hb6
  have ho36 := row_below (row_below (row_below ho3 hb4) hb5) hb6
  have d3 := own_cell (k := 1) (L := [[97], [100]]) ho36 rfl
  have hrow : StrRow (w6.alloc (.cells #[.string ⟨#[46]⟩, .string ⟨#[97]⟩] 9)) w6.heap.size 9 [[46], [97]] := heap_alloc_new w6 _
  have c7 := path_Norm_any (.slice (some ⟨w6.heap.size, 0, none⟩) 2 2) [[46], [97]] (by decide) (by decide) (w6.alloc (.cells #[.string ⟨#[46]⟩, .string ⟨#[97]⟩] 9)) (texts_row hrow (by simp)) rfl
  rw [norm8] at c7
  clear c6
  go_wp2_with fail
  refine c7.mono ?_
  rintro e w7 ⟨v7, rfl, ho7, hb7⟩
  have hk7 := (hk6.alloc _).step hb7
  obtain ⟨g7, p7, rfl, hp7⟩ := own_some (n := 0) ho7
  go_wp2
  go_ret
  exact ⟨rfl, hk7⟩

end Go.Proofs.YtcegcjefjclcnaaDoor
