/- Token: the reference's Last. -/
import Derived.Test.YtnppnogmpoigkaaDoorTok2
import Derived.Test.YtnppnogmpoigkaaDoorTok4
namespace Go.Proofs.YtnppnogmpoigkaaDoor
open Go.RowKit Go.Proofs.YtnppnogmpoigkaaDoorW.PrintWords
set_option linter.unusedVariables false
set_option linter.unnecessarySimpa false
set_option linter.unusedSimpArgs false

def lastStep (p : Nat) (x : List UInt8) : Nat := if polOf x = 0 then p else polOf x
/-- What the last text of a list tells that tells anything. -/
def lastP (l : List (List UInt8)) : Nat := l.foldl lastStep 0
theorem lastP_step {l : List (List UInt8)} {k : Nat} {x : List UInt8} (h : l[k]? = some x) : lastP (l.take (k + 1)) = lastStep (lastP (l.take k)) x := by
  unfold lastP
  rw [List.take_add_one, h, List.foldl_append]; rfl
theorem splitT_le (s : List UInt8) : ∀ x ∈ splitT s, x.length ≤ s.length := by
  intro x hx
  unfold splitT at hx
  obtain ⟨y, hy, rfl⟩ := List.mem_map.1 hx
  exact Nat.le_trans (trim2_len y) (splitOn_le 44 s y hy)
theorem splitT_len (s : List UInt8) : (splitT s).length ≤ s.length + 1 := by
  unfold splitT
  rw [List.length_map, splitOn_length]
  have := List.count_le_length (a := (44 : UInt8)) (l := s)
  omega

set_option maxHeartbeats 4000000 in
set_option maxRecDepth 100000 in
theorem ref14_Last_any (s : ByteArray) (hs : s.size ≤ 999998) (w : World) :
    Calls Tryd.prog 19 #[.string s] w fun e w' => e = .returned (.int .i64 (lastP (splitT s.data.toList))) ∧ Below w.heap.size w w' := by
  have cS := ref14_Split_any s hs w
  have hsl := size_list s
  have hall : Hid (∀ x ∈ splitT s.data.toList, x.length ≤ 1000000) := fun x hx => Nat.le_trans (splitT_le _ x hx) (by omega)
  have hlen := splitT_len s.data.toList
  generalize splitT s.data.toList = L at *
  have hL : L.length ≤ 1000000 := by omega
  clear hlen hsl
  go_enter Tryd.func19, Tryd.ntmps19
  go_wp2_with fail
  refine cS.mono ?_
  rintro e w1 ⟨v1, rfl, ho1, hb1⟩
  have hT := (texts_own ho1 (Nat.le_refl _)).1
  obtain ⟨ao, cap, rfl, hat⟩ := hT.at_
  have HT := Lib.hid hat
  clear hT hat ho1
  go_wp2
  go_loopw [4, 5] (fun p i wr => ∃ k : Nat, k ≤ L.length ∧ i = .int .i64 k ∧ p = .int .i64 (lastP (L.take k)) ∧ Below w1.heap.size w1 wr) (fun _ i _ => L.length - (intOf i).toNat)
  case atStart => exact ⟨0, by omega, rfl, rfl, Below.refl _ _⟩
  case round =>
    obtain ⟨k, hk, rfl, rfl, hbl⟩ := hrel
    by_cases hkl : k < L.length
    · obtain ⟨x, hx⟩ : ∃ x, L[k]? = some x := ⟨_, List.getElem?_eq_getElem hkl⟩
      obtain ⟨g, off, rfl, hg, hc1⟩ := HT.out k _ hx
      have hcx := (hbl.cell (p := ⟨g, off + k, none⟩) hg).trans hc1
      have hxl := hall.out x (List.mem_of_getElem? hx)
      have cP := ref14_Policy_any x hxl wr
      have hst := Lib.hid (lastP_step hx)
      clear hx hc1
      by_cases h0 : polOf x = 0
      · rw [h0] at cP
        have hst2 : Hid (lastP (L.take (k + 1)) = lastP (L.take k)) := by show _ = _; rw [hst.out]; unfold lastStep; rw [if_pos h0]
        clear h0 hst
        go_wp2_with (first | (go_at_call 15; refine cP.mono ?_; rintro e w2 ⟨rfl, hb2⟩))
        exact ⟨⟨k + 1, by omega, by go_num, by rw [hst2.out], below_on hbl hbl.size hb2⟩, by (simp [intOf] <;> omega)⟩
      · have q0 : ((polOf x : Int) != 0) = true := bne_iff_ne.2 (by omega)
        have q0n : (polOf x != 0) = true := bne_iff_ne.2 h0
        have hst2 : Hid (lastP (L.take (k + 1)) = polOf x) := by show _ = _; rw [hst.out]; unfold lastStep; rw [if_neg h0]
        clear hst
        generalize polOf x = q at *
        go_wp2_with (first | (go_at_call 15; refine cP.mono ?_; rintro e w2 ⟨rfl, hb2⟩))
        exact ⟨⟨k + 1, by omega, by go_num, by rw [hst2.out], below_on hbl hbl.size hb2⟩, by (simp [intOf] <;> omega)⟩
    · obtain rfl : k = L.length := by omega
      have hf : Hid (L.take L.length = L) := List.take_length
      go_wp2
      go_ret
      exact ⟨by first | rfl | (rw [hf.out]; rfl), below_on hb1 hb1.size hbl⟩

end Go.Proofs.YtnppnogmpoigkaaDoor
