/- A block that holds a text's bytes ('[]byte(s)'), stored into, and made a text again. No program in sight. -/
import Derived.Test.YtnppnogmpoigkaaDoorB0
import Derived.Laws.IdiomStrings
import Derived.Lib.BufferMore
namespace Go.Proofs.YtnppnogmpoigkaaDoor
open Go.RowKit

structure ByteBlk (w : World) (g : Nat) (e : TypeId) (l : List UInt8) : Prop where
  blk : ∃ (tail : List Value) (fr : Nat × Nat), w.heap[g]? = some (.cells (u8s l ++ tail).toArray e fr) ∧ l.length + tail.length ≤ fr.1
namespace ByteBlk
variable {w w' : World} {g : Nat} {e : TypeId} {l : List UInt8}
theorem lt (h : ByteBlk w g e l) : g < w.heap.size := by
  obtain ⟨_, _, h, _⟩ := h.blk; exact lt_of_block h
theorem below (h : ByteBlk w g e l) {B : Nat} (hb : Below B w w') (hlt : g < B) : ByteBlk w' g e l := by
  obtain ⟨t, fr, h, hl⟩ := h.blk; exact ⟨t, fr, block_below h hb hlt, hl⟩
theorem cell (h : ByteBlk w g e l) {k : Nat} {c : UInt8} (hk : l[k]? = some c) : w.cell? ⟨g, k, none⟩ = some (.int .u8 c.toNat) := by
  obtain ⟨t, fr, h, _⟩ := h.blk
  obtain ⟨h1, h2⟩ := List.getElem?_eq_some_iff.1 hk
  rw [cell_of_row w g k _ e fr h, List.getElem?_toArray, List.getElem?_append_left (by rw [u8s_length]; exact h1), u8s_get l k h1, h2]
theorem free (h : ByteBlk w g e l) {k : Nat} (hk : k < l.length) : w.frozen? ⟨g, k, none⟩ = false := by
  obtain ⟨t, fr, h, hl⟩ := h.blk
  obtain ⟨lo, hi⟩ := fr
  simp only at hl
  simp only [World.frozen?, h]
  simp; omega
theorem set (h : ByteBlk w g e l) {k : Nat} (hk : k < l.length) (c : UInt8) : ByteBlk (w.setCell ⟨g, k, none⟩ (.int .u8 c.toNat)) g e (l.set k c) := by
  obtain ⟨t, fr, h, hl⟩ := h.blk
  refine ⟨t, fr, ?_, by rw [List.length_set]; exact hl⟩
  rw [Go.Lib.heap_setCell_same h]
  congr 2
  rw [List.setIfInBounds_toArray, List.set_append_left _ _ (by rw [u8s_length]; exact hk), u8s_set]
theorem str {P : Program} {src dst : TypeId} (hs : P.underlying src = some (.slice e)) (he : P.underlying e = some (.int .u8)) (hd : P.underlying dst = some .string) (h : ByteBlk w g e l) {n cap : Nat} (hn : l.length = n) :
    (convert src dst (.slice (some ⟨g, 0, none⟩) n cap)).run P w = .ok (.string ⟨l.toArray⟩) w := by
  rw [run_convert_bytes_arg w src e hs he g 0 n cap (l.map fun c => (c.toNat : Int)) (by simpa using hn) (fun i hi => ?_) dst hd]
  · unfold strOfNums
    rw [List.map_map, List.map_congr_left (g := id) (fun c _ => by simp), List.map_id]
  · rw [Nat.zero_add, h.cell (List.getElem?_eq_getElem (show i < l.length by omega))]
    simp [List.getD_eq_getElem?_getD, List.getElem?_eq_getElem (show i < l.length by omega)]
/-- '[]byte(s)'. -/
theorem made {P : Program} (w : World) (src dst e : TypeId) (s : ByteArray) (hs : P.underlying src = some .string) (hd : P.underlying dst = some (.slice e)) (he : P.underlying e = some (.int .u8)) :
    ∃ (cap : Nat) (w' : World), (convert src dst (.string s)).run P w = .ok (.slice (some ⟨w.heap.size, 0, none⟩) s.size cap) w' ∧ ByteBlk w' w.heap.size e s.data.toList ∧ Below w.heap.size w w' := by
  refine ⟨_, _, run_bytes_of_string w src dst e s hs hd he, ⟨⟨List.replicate (grownCap w s.size 0 e - s.size) (.int .u8 0), ((bytesRow s (grownCap w s.size 0 e)).size, (bytesRow s (grownCap w s.size 0 e)).size + 1), ?_, ?_⟩⟩, ?_⟩
  · have e1 : bytesRow s (grownCap w s.size 0 e) = (u8s s.data.toList ++ List.replicate (grownCap w s.size 0 e - s.size) (Value.int .u8 0)).toArray := by
      apply Array.ext'
      simp [bytesRow, u8s]
    rw [← e1]
    have := heap_alloc_new w.drew (.cells (bytesRow s (grownCap w s.size 0 e)) e ((bytesRow s (grownCap w s.size 0 e)).size, (bytesRow s (grownCap w s.size 0 e)).size + 1))
    exact this
  · simp [bytesRow]
  · exact ((Below.refl _ _).drew).alloc (Nat.le_refl _) _
end ByteBlk

end Go.Proofs.YtnppnogmpoigkaaDoor
