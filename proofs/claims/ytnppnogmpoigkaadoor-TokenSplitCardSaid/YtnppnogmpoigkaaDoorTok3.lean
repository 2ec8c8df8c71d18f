/- Token: lists split. -/
import Derived.Test.YtnppnogmpoigkaaDoorTrim2
import Derived.Test.YtnppnogmpoigkaaDoorStrs
import Derived.Test.YtnppnogmpoigkaaDoorAppL
namespace Go.Proofs.YtnppnogmpoigkaaDoor
open Go.RowKit Go.Proofs.YtnppnogmpoigkaaDoorW.PrintWords
set_option linter.unusedVariables false
set_option linter.unnecessarySimpa false
set_option linter.unusedSimpArgs false

def splitT (s : List UInt8) : List (List UInt8) := (splitOn 44 s).map trim2
theorem own_strs {w : World} {g B : Nat} {T : TypeId} {L : List (List UInt8)} (h : w.heap[g]? = some (.cells (strs L).toArray T (0, 0))) (hB : B ≤ g) (hl : L.length ≤ 9000000) :
    w.ownsRow B T 1 (.slice (some ⟨g, 0, none⟩) L.length L.length) L.length (strs L) :=
  ⟨by rw [strs_length, Nat.mul_one], .inr ⟨g, L.length, _, rfl, hB, h, Nat.le_refl _, by unfold maxLen; omega, by simp [strs_length], by simp [strs_length, List.take_of_length_le]⟩⟩
section
variable {f : List UInt8 → List UInt8} {P : List (List UInt8)} {k : Nat} {x : List UInt8}
theorem mid_at (h : P[k]? = some x) : ((P.take k).map f ++ P.drop k)[k]? = some x := by
  have hk := (List.getElem?_eq_some_iff.1 h).1
  rw [List.getElem?_append_right (by simp; omega), List.length_map, List.length_take, Nat.min_eq_left (by omega), Nat.sub_self, List.getElem?_drop, Nat.add_zero]
  exact h
theorem mid_step (h : P[k]? = some x) : ((P.take k).map f ++ P.drop k).set k (f x) = (P.take (k + 1)).map f ++ P.drop (k + 1) := by
  obtain ⟨hk, he⟩ := List.getElem?_eq_some_iff.1 h
  have e1 : k - ((P.take k).map f).length = 0 := by rw [List.length_map, List.length_take]; omega
  rw [List.set_append_right _ _ (by rw [List.length_map, List.length_take]; omega), e1, List.drop_eq_getElem_cons hk, List.set_cons_zero, List.take_add_one, h]
  simp
end
theorem strs_set (L : List (List UInt8)) (k : Nat) (x : List UInt8) : (strs L).set k (.string ⟨x.toArray⟩) = strs (L.set k x) := by unfold strs; rw [List.map_set]

set_option maxHeartbeats 4000000 in
set_option maxRecDepth 100000 in
theorem tok_Split_any (s : ByteArray) (hs : s.size ≤ 1000000) (w : World) (hG : Good w) :
    Calls Tryd.prog 12 #[.string s] w fun e w' => ∃ v, e = .returned v ∧ w'.ownsRow w.heap.size 9 1 v (splitT s.data.toList).length (strs (splitT s.data.toList)) ∧ Below w.heap.size w w' := by
  have cS := split_any 44 s (by omega) w hG
  have lP : (splitOn 44 s.data.toList).length ≤ 1000001 := by
    rw [splitOn_length]
    have := List.count_le_length (a := (44 : UInt8)) (l := s.data.toList)
    have := size_list s
    omega
  have hall : Hid (∀ x ∈ splitOn 44 s.data.toList, x.length ≤ 1000000) := fun x hx => Nat.le_trans (splitOn_le 44 _ x hx) (by rw [← size_list]; exact hs)
  unfold splitT
  generalize splitOn 44 s.data.toList = P at *
  go_enter Tryd.func12, Tryd.ntmps12
  go_wp2_with (first | (go_at_call 25; refine cS.mono ?_; rintro e w1 ⟨rfl, rfl⟩))
  go_loopw [9] (fun i wr => ∃ k : Nat, k ≤ P.length ∧ i = .int .i64 k ∧ Hid (wr.heap[w.heap.size]? = some (.cells (strs ((P.take k).map trim2 ++ P.drop k)).toArray 9 (0, 0))) ∧ Below w.heap.size w wr) (fun i _ => P.length - (intOf i).toNat)
  case atStart => exact ⟨0, by omega, rfl, (show _ = _ by rw [List.take_zero, List.map_nil, List.nil_append, List.drop_zero]; exact heap_alloc_new w (.cells (strs P).toArray 9)), (Below.refl _ _).alloc (Nat.le_refl _) _⟩
  case round =>
    obtain ⟨k, hk, rfl, hblk, hbl⟩ := hrel
    by_cases hkl : k < P.length
    · obtain ⟨x, hx⟩ : ∃ x, P[k]? = some x := ⟨_, List.getElem?_eq_getElem hkl⟩
      have hxl := hall.out x (List.mem_of_getElem? hx)
      have cT := trim_any ⟨x.toArray⟩ (by rw [ba_len]; exact hxl) wr
      rw [mk_toList] at cT
      have hcx : wr.cell? ⟨w.heap.size, k, none⟩ = some (.string ⟨x.toArray⟩) := by
        rw [cell_of_row wr _ _ _ _ _ hblk.out]
        rw [List.getElem?_toArray]
        unfold strs
        rw [List.getElem?_map, mid_at hx]; rfl
      have HX := Lib.hid hx
      clear hx
      go_wp2_with (first | (go_at_call 26; refine cT.mono ?_; rintro e w1 ⟨rfl, hb1⟩; have hb1' := Lib.hid (block_below hblk.out hb1 (lt_of_block hblk.out)); have cc : w1.cell? ⟨w.heap.size, k, none⟩ = some (.string ⟨x.toArray⟩) := ((hb1.cell (p := ⟨w.heap.size, k, none⟩) (lt_of_block hblk.out)).trans hcx); have ff : w1.frozen? ⟨w.heap.size, k, none⟩ = false := (by simp [World.frozen?, hb1'.out])))
      have hF := Go.heap_setCell_same w1 w.heap.size k _ 9 (.string ⟨(trim2 x).toArray⟩) hb1'.out
      refine ⟨⟨k + 1, by omega, by go_num, ?_, ?_⟩, by simp [intOf]; omega⟩
      · show _ = _
        rw [hF]
        congr 2
        rw [← mid_step HX.out, ← strs_set]
        simp
      · exact (below_on hbl hbl.size hb1).setCell (p := ⟨w.heap.size, k, none⟩) (Nat.le_refl _) _
    · obtain rfl : k = P.length := by omega
      have hfin : Hid (wr.heap[w.heap.size]? = some (.cells (strs (P.map trim2)).toArray 9 (0, 0))) := by
        show _ = _
        rw [hblk.out, List.take_length, List.drop_eq_nil_of_le (Nat.le_refl _), List.append_nil]
      clear hblk
      go_wp2
      go_ret
      have ho := own_strs hfin.out (B := w.heap.size) (Nat.le_refl _) (by rw [List.length_map]; omega)
      refine ⟨_, rfl, ?_, hbl⟩
      have e : (P.map trim2).length = P.length := List.length_map _
      rw [e] at ho
      rw [e]
      exact ho

end Go.Proofs.YtnppnogmpoigkaaDoor
