/- A parameter that is a slice of texts, opened; what its texts weigh. -/
import Derived.Test.YtgbjofahmkeapaaDoorTexts
import Derived.Test.YtgbjofahmkeapaaDoorEv
import Derived.Test.YtgbjofahmkeapaaDoorApp
import Derived.WalkKit
import Derived.OpenShut
import Derived.SliceStrings
import Derived.SizedLaws
namespace Go.Proofs.YtgbjofahmkeapaaDoor
open Go.RowKit

section
open Go.ChangeShapes Go.WideShapes
variable {H : Type} {enc : TypeId × Value → H} {P : Program} {W : World} {T e : TypeId}
theorem open_texts2 {r : Reach} {b0 : Nat} {v : Value} {d : DataW H} {ps : List MemPlace} (hT : P.underlying T = some (.slice e)) (he : P.underlying e = some .string) (hce : P.cellsOf e = 1)
    (hval : Value.okWide P W r b0 T v) (hd : DataW.Trod enc P W 0 (fun _ => true) true T v d ps) :
    ∃ L : List (List UInt8), Texts W.heap.size W v L ∧ v.oneCell' = true ∧ L.length ≤ maxLen ∧ (∀ x ∈ L, x.length ≤ maxLen) ∧ (L = [] ∨ ∃ sp, d = .slice (L.map fun x => .lit (.string x)) sp) := by
  obtain ⟨ao, len, cap, rfl⟩ := okWide_slice hT hval
  obtain ⟨fuel, hf⟩ := hd
  have hf' : DataW.trod enc P W 0 (fun _ => true) true fuel T [.slice ao len cap] = some (d, ps) := hf
  rcases open_strings hT he hce hf' with ⟨hcs, hx⟩ | ⟨a, len', cap', ss, hcs, _, hl, hm, hz, hx, hcell, hsm⟩
  · simp at hcs
    obtain ⟨rfl, rfl, rfl⟩ := hcs
    exact ⟨[], .inl ⟨rfl, rfl⟩, rfl, Nat.zero_le _, (fun x h => by cases h), .inl rfl⟩
  · simp at hcs
    obtain ⟨rfl, rfl, rfl⟩ := hcs
    rw [Prod.mk.injEq] at hx
    obtain ⟨rfl, _⟩ := hx
    simp only [if_true] at hz
    have hok : len ≤ cap ∧ (cap : Int) ≤ IntKind.i64.max ∧ W.has P r b0 a e cap := by
      simpa [Value.okWide, Cell.okWide, Cell.ok, hT] using hval
    obtain ⟨_, _, _, hspot, row, cells, hshape, _⟩ := hok
    obtain ⟨b, off, spot⟩ := a
    simp only at hspot hshape
    subst hspot
    have hblt : b < W.heap.size := by
      rcases Nat.lt_or_ge b W.heap.size with h | h
      · exact h
      · exfalso
        have hn : W.heap[b]? = none := Array.getElem?_eq_none h
        simp [World.shape?, hn] at hshape
    refine ⟨(ss.take len).map (·.data.toList), .inr ⟨b, off, cap, by simp [hz, Nat.min_eq_left hl], hblt, fun j x hx => ?_⟩, rfl, by simp; omega, fun x hx => ?_, .inr ⟨_, by unfold Go.ChangeShapes.strs; rw [List.map_map]; rfl⟩⟩
    · rw [List.getElem?_map] at hx
      obtain ⟨X, hX, rfl⟩ := Option.map_eq_some_iff.1 hx
      have hj : j < len := by
        have := (List.getElem?_eq_some_iff.1 hX).1
        simp at this
        omega
      have hX' : ss.getD j ByteArray.empty = X := by
        rw [List.getElem?_take_of_lt hj] at hX
        simp [List.getD, hX]
      rw [of_toList, ← hX', ← Go.WideShapes.add_plain]
      exact hcell j (by omega)
    · obtain ⟨X, hX, rfl⟩ := List.mem_map.1 hx
      have := hsm X (List.mem_of_mem_take hX)
      rw [← size_list]; exact this
theorem mem_weightsAll {n : Nat} {d : DataW H} (hn : n ∈ d.weights P e) : ∀ {l : List (DataW H)}, d ∈ l → n ∈ DataW.weightsAll P e l
  | x :: l, h => by
    unfold DataW.weightsAll
    rcases List.mem_cons.1 h with rfl | h
    · exact List.mem_append_left _ hn
    · exact List.mem_append_right _ (mem_weightsAll hn h)
theorem weigh_texts {ts : List TypeId} {ds : List (DataW H)} (h : (DataW.weightsEach P ts ds).all (· ≤ reachBytes) = true) {j : Nat} {t : TypeId} {L : List (List UInt8)} {sp : List (DataW H)}
    (ht : ts[j]? = some t) (hd : ds[j]? = some (.slice (L.map fun x => .lit (.string x)) sp)) (hu : P.underlying t = some (.slice e)) : ∀ x ∈ L, x.length ≤ 140737488351232 := fun x hx => by
  have hm : x.length ∈ (DataW.slice (L.map fun x => DataW.lit (H := H) (.string x)) sp).weights P t := by
    unfold DataW.weights
    rw [hu]
    exact List.mem_cons_of_mem _ (List.mem_append_left _ (mem_weightsAll (d := .lit (.string x)) (by unfold DataW.weights; exact List.mem_singleton.2 rfl) (List.mem_map.2 ⟨x, hx, rfl⟩)))
  have := List.all_eq_true.1 h _ (DataW.weights_mem_each ht hd x.length hm)
  exact of_decide_eq_true this
end

end Go.Proofs.YtgbjofahmkeapaaDoor
