/- strings.Builder.WriteString, as a contract that tells what else stays. -/
import Derived.Test.YtcegcjefjclcnaaDoorBld
import Derived.Test.YtcegcjefjclcnaaDoorEv
namespace Go.Proofs.YtcegcjefjclcnaaDoor
open Go.RowKit

/-- A builder at block b, its bytes in blocks from B on, wherever b lies. -/
structure Bl (B b : Nat) (v : Value) (l : List UInt8) (w : World) : Prop where
  blk : w.heap[b]? = some (.cells #[.pointer none, v] 40 (0, 0)) ∨ w.heap[b]? = some (.cells #[.pointer (some ⟨b, 0, none⟩), v] 40 (0, 0))
  own : w.ownsRow B 5 1 v l.length (u8s l)
  ne : v.ownBlock ≠ some b
theorem Bl.lt {B b : Nat} {v : Value} {l : List UInt8} {w : World} (h : Bl B b v l w) : b < w.heap.size := h.blk.elim lt_of_block lt_of_block
theorem copyCheck_bl {B b : Nat} {v : Value} {l : List UInt8} {w : World} (h : Bl B b v l w) :
    Calls Tryd.prog 36 #[.pointer (some ⟨b, 0, none⟩)] w fun e w' => e = .returned (.tuple #[]) ∧ (w'.heap[b]? = some (.cells #[.pointer (some ⟨b, 0, none⟩), v] 40 (0, 0)) ∧ w'.ownsRow B 5 1 v l.length (u8s l)) ∧ But b v w w' ∧ w'.heap.size = w.heap.size := by
  rcases h.blk with hb | hb
  · refine (copyCheck_fresh b w (by rw [cell_of_row w b 0 _ _ _ hb]; rfl) (by simp [World.shape?, hb]) (by simp [World.frozen?, hb])).mono ?_
    rintro e w' ⟨rfl, rfl⟩
    refine ⟨rfl, ⟨?_, h.own.kept (grown_setCell _ _ _) (.inr h.ne)⟩, But.setCell _ _ _ _ _, by simp⟩
    rw [Go.heap_setCell_same w b 0 _ _ _ hb]; rfl
  · refine (copyCheck_used b w (by rw [cell_of_row w b 0 _ _ _ hb]; rfl)).mono ?_
    rintro e w' ⟨rfl, rfl⟩
    exact ⟨rfl, ⟨hb, h.own⟩, But.refl _ _ _, rfl⟩

set_option maxHeartbeats 2000000 in
set_option maxRecDepth 100000 in
theorem WriteString_bl {B b : Nat} {v : Value} {l : List UInt8} (x : List UInt8) {w : World} (h : Bl B b v l w) (hl : l.length + x.length ≤ 140737488355328) (hB : B ≤ w.heap.size) :
    Calls Tryd.prog 21 #[.pointer (some ⟨b, 0, none⟩), .string ⟨x.toArray⟩] w fun e w' => e = .returned (.tuple #[.int .i64 x.length, .nilIface]) ∧ ∃ v', Bl B b v' (l ++ x) w' ∧ But b v w w' := by
  obtain ⟨i0, hi, hz0, hz1, hz2⟩ := info_parts infoByte
  go_enter Tryd.func21, Tryd.ntmps21
  go_wp2_with fail
  refine (copyCheck_bl h).mono ?_
  rintro e w1 ⟨rfl, ⟨hb1, ho1⟩, hk1, hs1⟩
  have hn1 := h.ne
  have c0 : w1.cell? ⟨b, 0, none⟩ = some (.pointer (some ⟨b, 0, none⟩)) := by rw [cell_of_row w1 b 0 _ _ _ hb1]; rfl
  have c1 : w1.cell? ⟨b, 1, none⟩ = some v := by rw [cell_of_row w1 b 1 _ _ _ hb1]; rfl
  have hsz1 : B ≤ w1.heap.size := by omega
  have hlt : b < w1.heap.size := lt_of_block hb1
  have HS1 := Lib.hid hs1
  have hxl : (⟨x.toArray⟩ : ByteArray).size = x.length := by rw [size_list, mk_toList]
  have HXL := Lib.hid hxl
  clear h hs1 hxl
  go_wp2_with (at_builtin; refine Lib.wpList_append_own_string _ rfl _ _ 36 9 rfl B 5 i0 Tryd.underlying36 Tryd.underlying9 hi hz0 hz1 hz2 v l.length (u8s l) (by rfl) ho1 ⟨x.toArray⟩ (by rfl) (by have := HXL.out; unfold maxLen; omega) (by have := HXL.out; omega) hsz1 ?_)
  intro v' w2 hown' hgrow _
  have hb2 : w2.heap[b]? = some (.cells #[.pointer (some ⟨b, 0, none⟩), v] 40 (0, 0)) := by
    rw [hgrow.block b (by omega) (fun e => hn1 e.symm)]
    exact hb1
  have d0 : w2.cell? ⟨b, 0, none⟩ = some (.pointer (some ⟨b, 0, none⟩)) := by rw [cell_of_row w2 b 0 _ _ _ hb2]; rfl
  have d1 : w2.cell? ⟨b, 1, none⟩ = some v := by rw [cell_of_row w2 b 1 _ _ _ hb2]; rfl
  have f1 : w2.frozen? ⟨b, 1, none⟩ = false := by simp [World.frozen?, hb2]
  obtain ⟨ao, n', cap, rfl⟩ : ∃ ao n' cap, v' = .slice ao n' cap := by
    rcases hown'.2 with ⟨hv, _⟩ | ⟨g, cap, cur, hv, _⟩
    · exact ⟨_, _, _, hv⟩
    · exact ⟨_, _, _, hv⟩
  have hne2 : (Value.slice ao n' cap).ownBlock ≠ some b := by
    intro e
    rcases hown'.2 with ⟨h0, _⟩ | ⟨g', cap', cur, hv, _, hcell, _⟩
    · rw [h0] at e; cases e
    · rw [hv] at e
      obtain rfl : g' = b := Option.some.inj e
      rw [hb2] at hcell
      injection hcell with hcell
      injection hcell with _ hT _
      exact absurd hT (by decide)
  go_wp2
  go_ret2
  refine ⟨rfl, .slice ao n' cap, ⟨.inr ?_, ?_, hne2⟩, ?_⟩
  · rw [Go.heap_setCell_same w2 b 1 _ _ _ hb2]; rfl
  · have := hown'.kept (grown_setCell _ ⟨b, 1, none⟩ (.slice ao n' cap)) (.inr hne2)
    rw [u8s_append, List.length_append]
    exact this
  · exact ⟨hgrow.os.trans hk1.os, hgrow.tape.trans hk1.tape, hgrow.output.trans hk1.output, by simp; have := hgrow.size; have := hk1.size; omega, fun k hk h1 h2 => by
      rw [Below.heap_setCell _ _ _ _ h1, hgrow.block k (by have := hk1.size; omega) (fun e => h2 e.symm), hk1.block k hk h1 h2]⟩

end Go.Proofs.YtcegcjefjclcnaaDoor
