/- Header fields: Drop of the program and of the reference. -/
import Derived.Test.YtnppnogmpoigkaaDoorHead5b
namespace Go.Proofs.YtnppnogmpoigkaaDoor
open Go.RowKit Go.Proofs.YtnppnogmpoigkaaDoorW.PrintWords

set_option maxHeartbeats 2000000 in
set_option maxRecDepth 100000 in
theorem head_Drop_any (fo : Option Addr) (fcap : Nat) (L : List Fld) (hL : L.length ≤ 1000000) (hfl : ∀ f ∈ L, f.1.length ≤ 1000000 ∧ f.2.length ≤ 1000000) (ao : Option Addr) (cap : Nat) (names : List (List UInt8)) (hN : names.length ≤ 1000000) (hall : ∀ x ∈ names, x.length ≤ 140737488351232)
    (w : World) (hF : FldsAt w.heap.size w fo L) (hT : TextsAt w.heap.size w ao names) :
    Calls Tryd.prog 24 #[.slice fo L.length fcap, .slice ao names.length cap] w fun e w' => ∃ v, e = .returned v ∧ w'.ownsRow w.heap.size 38 2 v (dropL names L).length (flds (dropL names L)) ∧ Below w.heap.size w w' := by
  have hal : Below w.heap.size w (w.alloc (.cells #[.slice ao names.length cap] 26)) := (Below.refl _ _).alloc (Nat.le_refl _) _
  have hcl := cloneF_any fo fcap w.heap.size L hL (w.alloc (.cells #[.slice ao names.length cap] 26)) (by simp) (hF.below hal)
  have hbox := heap_alloc_new w (.cells #[.slice ao names.length cap] 26)
  go_enter Tryd.func24, Tryd.ntmps24
  go_wp2_with fail
  refine hcl.mono ?_
  rintro e w1 ⟨v, rfl, ho, hb1⟩
  have hb2 : Below w.heap.size w w1 := hal.trans (hb1.mono (by simp))
  have hbox1 := block_below hbox hb1 (by simp)
  have hd := delF_any v L hL hfl ao cap w.heap.size names hN hall w.heap.size (w.heap.size + 1) w1 (by rw [World.size_alloc] at ho; exact ho) (by omega) (by omega) (by have := hb1.size; simp at this; omega) (hT.below hb2) (one_cell hbox1).1
  obtain ⟨fa, fc, rfl⟩ := fld_slice ho
  go_wp2_with (first | (go_at_call 39; refine hd.mono ?_; rintro e w2 ⟨v2, rfl, ho2, hb3⟩))
  go_ret
  exact ⟨v2, rfl, row_low ho2 (by omega), hb2.trans (hb3.mono (by omega))⟩

end Go.Proofs.YtnppnogmpoigkaaDoor
