/- A parameter that is a slice of texts, opened; the laws' own Few. -/
import Derived.Test.YtcegcjefjclcnaaDoorSeg
import Derived.WalkKit
import Derived.OpenShut
import Derived.SliceStrings
namespace Go.Proofs.YtcegcjefjclcnaaDoor
open Go.RowKit Go.Proofs.YtcegcjefjclcnaaDoorW.PrintWords

section
open Go.ChangeShapes Go.WideShapes
variable {H : Type} {enc : TypeId × Value → H} {P : Program} {W : World} {T e : TypeId}
theorem open_texts {r : Reach} {b0 : Nat} {v : Value} {d : DataW H} {ps : List MemPlace} (hT : P.underlying T = some (.slice e)) (he : P.underlying e = some .string) (hce : P.cellsOf e = 1)
    (hval : Value.okWide P W r b0 T v) (hd : DataW.Trod enc P W 0 (fun _ => true) true T v d ps) :
    ∃ L : List (List UInt8), Texts W.heap.size W v L ∧ v.oneCell' = true ∧ L.length ≤ maxLen ∧ (∀ x ∈ L, x.length ≤ maxLen) := by
  obtain ⟨ao, len, cap, rfl⟩ := okWide_slice hT hval
  obtain ⟨fuel, hf⟩ := hd
  have hf' : DataW.trod enc P W 0 (fun _ => true) true fuel T [.slice ao len cap] = some (d, ps) := hf
  rcases open_strings hT he hce hf' with ⟨hcs, hx⟩ | ⟨a, len', cap', ss, hcs, _, hl, hm, hz, hx, hcell, hsm⟩
  · simp at hcs
    obtain ⟨rfl, rfl, rfl⟩ := hcs
    rw [Prod.mk.injEq] at hx
    obtain ⟨rfl, _⟩ := hx
    exact ⟨[], .inl ⟨rfl, rfl⟩, rfl, Nat.zero_le _, fun x h => by cases h⟩
  · simp at hcs
    obtain ⟨rfl, rfl, rfl⟩ := hcs
    rw [Prod.mk.injEq] at hx
    obtain ⟨rfl, _⟩ := hx
    simp only [if_true] at hz
    have hok : len ≤ cap ∧ (cap : Int) ≤ IntKind.i64.max ∧ W.has P r b0 a e cap := by
      simpa [Value.okWide, Cell.okWide, Cell.ok, hT] using hval
    obtain ⟨_, _, _, hspot, row, cells, hshape, _⟩ := hok
    obtain ⟨b, off, spot⟩ := a
    simp only at hspot hshape
    subst hspot
    have hblt : b < W.heap.size := by
      rcases Nat.lt_or_ge b W.heap.size with h | h
      · exact h
      · exfalso
        have hn : W.heap[b]? = none := Array.getElem?_eq_none h
        simp [World.shape?, hn] at hshape
    refine ⟨(ss.take len).map (·.data.toList), .inr ⟨b, off, cap, by simp [hz, Nat.min_eq_left hl], hblt, fun j x hx => ?_⟩, rfl, by simp; omega, fun x hx => ?_⟩
    · rw [List.getElem?_map] at hx
      obtain ⟨X, hX, rfl⟩ := Option.map_eq_some_iff.1 hx
      have hj : j < len := by
        have := (List.getElem?_eq_some_iff.1 hX).1
        simp at this
        omega
      have hX' : ss.getD j ByteArray.empty = X := by
        rw [List.getElem?_take_of_lt hj] at hX
        simp [List.getD, hX]
      rw [of_toList, ← hX', ← Go.WideShapes.add_plain]
      exact hcell j (by omega)
    · obtain ⟨X, hX, rfl⟩ := List.mem_map.1 hx
      have := hsm X (List.mem_of_mem_take hX)
      rw [← size_list]; exact this
end

set_option maxHeartbeats 2000000 in
set_option maxRecDepth 100000 in
theorem Few_any (v : Value) (L : List (List UInt8)) (hL : L.length ≤ maxLen) (hall : ∀ x ∈ L, x.length ≤ maxLen) (w : World) (hT : Texts w.heap.size w v L) :
    Calls Tryd.prog 10 #[v] w fun e w' => ∃ b, e = .returned (.bool b) ∧ (b = true → L.length ≤ 60 ∧ ∀ x ∈ L, x.length ≤ 300) ∧ Below w.heap.size w w' := by
  unfold maxLen at hL hall
  rcases hT with ⟨rfl, rfl⟩ | ⟨g, off, cap, rfl, hg, hc⟩
  · go_enter Tryd.func10, Tryd.ntmps10
    go_wp2
    go_loopw [3] (fun i wr => i = .int .i64 0 ∧ Below w.heap.size w wr) (fun _ _ => 0)
    case atStart => exact ⟨rfl, Below.refl _ _⟩
    case round =>
      obtain ⟨rfl, hb⟩ := hrel
      go_wp2
      go_ret
      exact ⟨_, rfl, fun _ => ⟨by simp, fun x h => by cases h⟩, hb⟩
  · go_enter Tryd.func10, Tryd.ntmps10
    go_wp2
    go_loopw [3] (fun i wr => ∃ k : Nat, k ≤ L.length ∧ k ≤ 61 ∧ i = .int .i64 k ∧ Hid (∀ x ∈ L.take k, x.length ≤ 300) ∧ Below w.heap.size w wr) (fun i _ => 61 - (intOf i).toNat)
    case atStart => exact ⟨0, by omega, by omega, rfl, (fun x h => by simp at h), Below.refl _ _⟩
    case round =>
      obtain ⟨k, hk, hk2, rfl, hno, hbl⟩ := hrel
      by_cases hlt : k < L.length
      · by_cases h60 : k ≤ 60
        · obtain ⟨x, hx⟩ : ∃ x, L[k]? = some x := ⟨_, List.getElem?_eq_getElem hlt⟩
          have hcx : wr.cell? ⟨g, off + k, none⟩ = some (.string ⟨x.toArray⟩) := (hbl.cell (p := ⟨g, off + k, none⟩) hg).trans (hc k x hx)
          have hxl := hall x (List.mem_of_getElem? hx)
          have HX := Lib.hid hx
          clear hx hc hall
          by_cases h300 : x.length ≤ 300
          · go_wp2
            go_roundw
            case rel =>
              refine ⟨k + 1, by omega, by omega, by go_num, fun y hy => ?_, hbl⟩
              rw [List.take_add_one, HX.out] at hy
              rcases List.mem_append.1 hy with hy | hy
              · exact hno.out y hy
              · obtain rfl : y = x := by simpa using hy
                exact h300
            case measure => simp [intOf]; omega
          · go_wp2
            go_ret
            exact ⟨false, rfl, (fun h => by cases h), hbl⟩
        · obtain rfl : k = 61 := by omega
          clear hc hall
          go_wp2
          go_ret
          exact ⟨_, rfl, fun h => absurd (of_decide_eq_true h) (by omega), hbl⟩
      · obtain rfl : k = L.length := by omega
        rw [List.take_length] at hno
        clear hc hall
        go_wp2
        go_ret
        exact ⟨_, rfl, fun h => ⟨by have := of_decide_eq_true h; omega, hno.out⟩, hbl⟩

end Go.Proofs.YtcegcjefjclcnaaDoor
