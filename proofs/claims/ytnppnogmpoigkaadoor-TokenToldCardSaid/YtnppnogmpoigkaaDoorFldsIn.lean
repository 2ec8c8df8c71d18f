/- A parameter that is a slice of fields, opened. -/
import Derived.Test.YtnppnogmpoigkaaDoorFlds
import Derived.WalkKit
import Derived.OpenShut
import Derived.SliceStrings
import Derived.Deep.SlicePairs
namespace Go.Proofs.YtnppnogmpoigkaaDoor
open Go.RowKit

section
open Go.ChangeShapes Go.WideShapes
variable {H : Type} {enc : TypeId × Value → H} {W : World}
def strL : Value → List UInt8
  | .string s => s.data.toList
  | _ => []
theorem cells_str1 : Tryd.prog.cellsOf 9 = 1 := by kernel_rfl
set_option maxRecDepth 100000 in
theorem open_flds {r : Reach} {b0 : Nat} {v : Value} {d : DataW H} {ps : List MemPlace}
    (hval : Value.okWide Tryd.prog W r b0 22 v) (hd : DataW.Trod enc Tryd.prog W 0 (fun _ => true) true 22 v d ps) :
    ∃ L : List Fld, Flds W.heap.size W v L ∧ v.oneCell' = true ∧ L.length ≤ maxLen ∧ (∀ f ∈ L, f.1.length ≤ maxLen ∧ f.2.length ≤ maxLen) := by
  obtain ⟨ao, len, cap, rfl⟩ := okWide_slice Tryd.underlying22 hval
  obtain ⟨fuel, hf⟩ := hd
  have hf' : DataW.trod enc Tryd.prog W 0 (fun _ => true) true fuel 22 [.slice ao len cap] = some (d, ps) := hf
  rcases Go.Deep.open_slice_pairs Tryd.underlying22 Tryd.underlying38 cells_fld rfl rfl cells_str1 cells_str1 hf' with ⟨hcs, hx⟩ | ⟨a, len', cap', m, n, V0, V1, D0, D1, P0, P1, hcs, _, hl, hm, hz, hx, hcell⟩
  · simp at hcs
    obtain ⟨rfl, rfl, rfl⟩ := hcs
    exact ⟨[], .inl ⟨rfl, rfl⟩, rfl, Nat.zero_le _, fun x h => by cases h⟩
  · simp at hcs
    obtain ⟨rfl, rfl, rfl⟩ := hcs
    simp only [if_true] at hz
    have hok : len ≤ cap ∧ (cap : Int) ≤ IntKind.i64.max ∧ W.has Tryd.prog r b0 a 38 cap := by
      simpa [Value.okWide, Cell.okWide, Cell.ok, Tryd.underlying22] using hval
    obtain ⟨_, _, _, hspot, row, cells, hshape, _⟩ := hok
    obtain ⟨b, off, spot⟩ := a
    simp only at hspot hshape
    subst hspot
    have hblt : b < W.heap.size := by
      rcases Nat.lt_or_ge b W.heap.size with h | h
      · exact h
      · exfalso
        have hn : W.heap[b]? = none := Array.getElem?_eq_none h
        simp [World.shape?, hn] at hshape
    have each : ∀ i, i < len → W.cell? ⟨b, off + i * 2, none⟩ = some (.string ⟨(strL (V0 i)).toArray⟩) ∧ W.cell? ⟨b, off + i * 2 + 1, none⟩ = some (.string ⟨(strL (V1 i)).toArray⟩) ∧ (strL (V0 i)).length ≤ maxLen ∧ (strL (V1 i)).length ≤ maxLen := fun i hi => by
      obtain ⟨h0, h1, t0, t1⟩ := hcell i (by omega)
      obtain ⟨s0, e0, _, w0⟩ := DataW.trod_string Tryd.underlying9 t0
      obtain ⟨s1, e1, _, w1⟩ := DataW.trod_string Tryd.underlying9 t1
      have e0' : V0 i = .string s0 := (List.cons.inj e0).1
      have e1' : V1 i = .string s1 := (List.cons.inj e1).1
      rw [add_plain, e0'] at h0
      rw [add_plain, ← Nat.add_assoc, e1'] at h1
      rw [e0', e1']
      show W.cell? ⟨b, off + i * 2, none⟩ = some (.string ⟨s0.data.toList.toArray⟩) ∧ W.cell? ⟨b, off + i * 2 + 1, none⟩ = some (.string ⟨s1.data.toList.toArray⟩) ∧ s0.data.toList.length ≤ _ ∧ s1.data.toList.length ≤ _
      rw [of_toList, of_toList, ← size_list, ← size_list]
      exact ⟨h0, h1, w0, w1⟩
    refine ⟨(List.range len).map fun i => (strL (V0 i), strL (V1 i)), .inr ⟨b, off, cap, by simp, hblt, fun j f hj => ?_⟩, rfl, by simp; omega, fun f hf => ?_⟩
    · rw [List.getElem?_map] at hj
      obtain ⟨i, hi, rfl⟩ := Option.map_eq_some_iff.1 hj
      obtain ⟨hjl, e⟩ := List.getElem?_eq_some_iff.1 hi
      rw [List.length_range] at hjl
      rw [List.getElem_range] at e
      subst e
      exact ⟨(each _ hjl).1, (each _ hjl).2.1⟩
    · obtain ⟨i, hi, rfl⟩ := List.mem_map.1 hf
      exact (each i (List.mem_range.1 hi)).2.2
end

end Go.Proofs.YtnppnogmpoigkaaDoor
