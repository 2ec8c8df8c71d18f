/- Token: what the laws lean on, and the chapter's example. -/
import Derived.Test.YtnppnogmpoigkaaDoorTok8
import Derived.Test.YtnppnogmpoigkaaDoorRowT
import Derived.Test.YtnppnogmpoigkaaDoorAppL
namespace Go.Proofs.YtnppnogmpoigkaaDoor
open Go.RowKit Go.Proofs.YtnppnogmpoigkaaDoorW.PrintWords
set_option linter.unusedVariables false
set_option linter.unnecessarySimpa false
set_option linter.unusedSimpArgs false

theorem ex14_last : lastP (splitT [111, 114, 105, 103, 105, 110, 44, 32, 115, 111, 109, 101, 116, 104, 105, 110, 103, 44, 32, 115, 97, 109, 101, 45, 111, 114, 105, 103, 105, 110, 44, 32, 101, 108, 115, 101]) = 3 := by decide +kernel
theorem ex14_pol : polOf [79, 82, 73, 71, 73, 78] = 4 := by decide +kernel
theorem ex14_name : polName 8 = [117, 110, 115, 97, 102, 101, 45, 117, 114, 108] := by decide +kernel
def ex14L : List Fld := [([114, 101, 102, 101, 114, 114, 101, 114, 45, 112, 111, 108, 105, 99, 121], [111, 114, 105, 103, 105, 110, 44, 32, 120])]
theorem ex14_told : toldL ex14L = 4 := by decide +kernel
theorem ex14_get : (getL rpN ex14L).length ≤ 999998 := by decide +kernel
theorem ex14_split : (splitT [97, 44, 98]).length = 2 := by decide +kernel

set_option maxHeartbeats 8000000 in
set_option maxRecDepth 100000 in
theorem awake14 (w : World) (hG : Good w) : Calls Tryd.prog 9 #[] w fun e w' => e = .returned (.bool true) ∧ Below w.heap.size w w' := by
  have hk0 := Ok.refl hG
  have hnew := heap_alloc_new w (.cells #[.string ⟨#[114, 101, 102, 101, 114, 114, 101, 114, 45, 112, 111, 108, 105, 99, 121]⟩, .string ⟨#[111, 114, 105, 103, 105, 110, 44, 32, 120]⟩] 38)
  have hka := hk0.alloc (.cells #[.string ⟨#[114, 101, 102, 101, 114, 114, 101, 114, 45, 112, 111, 108, 105, 99, 121]⟩, .string ⟨#[111, 114, 105, 103, 105, 110, 44, 32, 120]⟩] 38)
  have hF : FldsAt (w.alloc (.cells #[.string ⟨#[114, 101, 102, 101, 114, 114, 101, 114, 45, 112, 111, 108, 105, 99, 121]⟩, .string ⟨#[111, 114, 105, 103, 105, 110, 44, 32, 120]⟩] 38)).heap.size (w.alloc (.cells #[.string ⟨#[114, 101, 102, 101, 114, 114, 101, 114, 45, 112, 111, 108, 105, 99, 121]⟩, .string ⟨#[111, 114, 105, 103, 105, 110, 44, 32, 120]⟩] 38)) (some ⟨w.heap.size, 0, none⟩) ex14L := by
    obtain ⟨ao, cap, e, h⟩ := (flds_row (L := ex14L) (cap := 1) hnew (lt_of_block hnew)).at_
    obtain ⟨rfl, _, rfl⟩ := Value.slice.inj e
    exact h
  have cL := fun w1 (hG : Good w1) => tok_Last_any ⟨#[111, 114, 105, 103, 105, 110, 44, 32, 115, 111, 109, 101, 116, 104, 105, 110, 103, 44, 32, 115, 97, 109, 101, 45, 111, 114, 105, 103, 105, 110, 44, 32, 101, 108, 115, 101]⟩ (by decide) w1 hG
  have cP := fun w1 (hG : Good w1) => tok_Policy_any [79, 82, 73, 71, 73, 78] (by decide) w1 hG
  have cN := fun w1 (hG : Good w1) => tok_Name_any 8 w1 hG
  have cT := fun w1 (hG : Good w1) h => tok_Told_any (some ⟨w.heap.size, 0, none⟩) 1 ex14L (by decide) (by decide) ex14_get w1 hG h
  have cS := fun w1 (hG : Good w1) => tok_Split_any ⟨#[97, 44, 98]⟩ (by decide) w1 hG
  rw [ex14_pol] at cP
  rw [ex14_name] at cN
  rw [ex14_told] at cT
  have q1 : ((splitT [97, 44, 98]).length : Int) = 2 := by rw [ex14_split]; rfl
  simp only [show (⟨#[111, 114, 105, 103, 105, 110, 44, 32, 115, 111, 109, 101, 116, 104, 105, 110, 103, 44, 32, 115, 97, 109, 101, 45, 111, 114, 105, 103, 105, 110, 44, 32, 101, 108, 115, 101]⟩ : ByteArray).data.toList = [111, 114, 105, 103, 105, 110, 44, 32, 115, 111, 109, 101, 116, 104, 105, 110, 103, 44, 32, 115, 97, 109, 101, 45, 111, 114, 105, 103, 105, 110, 44, 32, 101, 108, 115, 101] from rfl, ex14_last] at cL
  simp only [show (⟨#[97, 44, 98]⟩ : ByteArray).data.toList = [97, 44, 98] from rfl] at cS
  generalize splitT [97, 44, 98] = SL at *
  replace q1 : ((SL.length : Int) == 2) = true := beq_iff_eq.2 q1
  clear hnew
  go_enter Tryd.func9, Tryd.ntmps9
  go_wp2_with fail
  refine (cL _ hka.good).mono ?_
  rintro e w1 ⟨rfl, hb1⟩
  have hk1 := hka.step hb1
  go_wp2_with fail
  refine (cP w1 hk1.good).mono ?_
  rintro e w2 ⟨rfl, hb2⟩
  have hk2 := hk1.step hb2
  go_wp2_with fail
  refine (cN w2 hk2.good).mono ?_
  rintro e w3 ⟨rfl, rfl⟩
  have hF3 : FldsAt w3.heap.size w3 (some ⟨w.heap.size, 0, none⟩) ex14L := fun j f hj => by
    obtain ⟨b, off, e, hb, h⟩ := (hF.below (hb1.trans (hb2.mono hb1.size))) j f hj
    exact ⟨b, off, e, Nat.lt_of_lt_of_le hb (Nat.le_trans hb1.size hb2.size), h⟩
  clear hF
  go_wp2_with fail
  refine (cT w3 hk2.good hF3).mono ?_
  rintro e w4 ⟨rfl, hb4⟩
  have hk4 := hk2.step hb4
  go_wp2_with fail
  refine (cS w4 hk4.good).mono ?_
  rintro e w5 ⟨v5, rfl, ho5, hb5⟩
  obtain ⟨ao, cap, rfl, _⟩ := (texts_own ho5 (Nat.le_refl _)).1.at_
  have hk5 := hk4.step hb5
  clear ho5
  go_wp2
  go_ret
  exact ⟨rfl, hk5.below⟩

end Go.Proofs.YtnppnogmpoigkaaDoor
