/- The laws of layer 1 (ascii): their example. -/
import Derived.Test.YtcfbmeljjmhdpaaGreatDoorClean
import Derived.Test.YtcfbmeljjmhdpaaGreatDoorAlpha
import Derived.Test.YtcfbmeljjmhdpaaGreatDoorLower
namespace Go.Proofs.YtcfbmeljjmhdpaaGreatDoor
open Go.RowKit Go.Proofs.YtcfbmeljjmhdpaaGreatDoorW.PrintWords

theorem low1a : lowL [65, 45, 98] = [97, 45, 98] := by decide +kernel
theorem low1b : lowL [97, 66] = lowL [65, 98] := by decide +kernel
theorem clean1 : cleanL [32, 97, 9, 98, 10] = [97, 98] := by decide +kernel
theorem trim1 : trimSp [32, 97, 32, 98, 32] = [97, 32, 98] := by decide +kernel
theorem hex1 : hexD 70 = 15 := by decide +kernel
theorem alpha1 : alphaB 122 = true := by decide +kernel
theorem digit1 : digitB 48 = true := by decide +kernel

theorem oLower {w0 w : World} (hk : Ok w0 w) (s : ByteArray) (hs : s.size ≤ 140737488351232) : Calls Tryz.prog 12 #[.string s] w fun e w' => e = .returned (.string ⟨(lowL s.data.toList).toArray⟩) ∧ Ok w0 w' := ok_below hk fun _ => ascii_Lower_any s hs w
theorem oSameA {w0 w : World} (hk : Ok w0 w) (s t : ByteArray) (hs : s.size ≤ 140737488351232) (ht : t.size ≤ 140737488351232) : Calls Tryz.prog 14 #[.string s, .string t] w fun e w' => e = .returned (.bool (lowL s.data.toList == lowL t.data.toList)) ∧ Ok w0 w' := ok_below hk fun _ => ascii_Same_any s t hs ht w
theorem oTrim {w0 w : World} (hk : Ok w0 w) (s : ByteArray) (hs : s.size ≤ 140737488351232) : Calls Tryz.prog 15 #[.string s] w fun e w' => e = .returned (.string ⟨(trimSp s.data.toList).toArray⟩) ∧ Ok w0 w' := ok_below hk fun hG => ascii_Trim_any s hs w hG
theorem oClean {w0 w : World} (hk : Ok w0 w) (s : ByteArray) (hs : s.size ≤ 1000000) : Calls Tryz.prog 17 #[.string s] w fun e w' => e = .returned (.string ⟨(cleanL s.data.toList).toArray⟩) ∧ Ok w0 w' := ok_below hk fun hG => ascii_Clean_any s hs w hG

set_option maxHeartbeats 2000000 in
set_option maxRecDepth 100000 in
theorem awake1 {w0 w : World} (hk : Ok w0 w) : Calls Tryz.prog 4 #[] w fun e w' => e = .returned (.bool true) ∧ Ok w0 w' := by
  have c1 := fun w (hk : Ok w0 w) => oLower hk ⟨#[65, 45, 98]⟩ (by decide)
  have c2 := fun w (hk : Ok w0 w) => oClean hk ⟨#[32, 97, 9, 98, 10]⟩ (by decide)
  have c3 := fun w (hk : Ok w0 w) => oTrim hk ⟨#[32, 97, 32, 98, 32]⟩ (by decide)
  have c4 : ∀ w, Calls Tryz.prog 10 #[.int .u8 70] w fun e w' => e = .returned (.int .i64 15) ∧ w' = w := fun w => by have := ascii_Hex 70 w; rw [hex1] at this; exact this
  have c5 : ∀ w, Calls Tryz.prog 8 #[.int .u8 122] w fun e w' => e = .returned (.bool true) ∧ w' = w := fun w => by have := ascii_Alpha_any 122 w; rw [alpha1] at this; exact this
  have c6 : ∀ w, Calls Tryz.prog 9 #[.int .u8 48] w fun e w' => e = .returned (.bool true) ∧ w' = w := fun w => by have := ascii_Digit_any 48 w; rw [digit1] at this; exact this
  have c7 := fun w (hk : Ok w0 w) => oSameA hk ⟨#[97, 66]⟩ ⟨#[65, 98]⟩ (by decide) (by decide)
  simp only [low1a, clean1, trim1] at c1 c2 c3
  simp only [low1b, beq_self_eq_true] at c7
  go_enter Tryz.func4, Tryz.ntmps4
  go_wp2_with fail
  refine (c1 w hk).mono ?_
  rintro e w1 ⟨rfl, hk1⟩
  go_wp2_with fail
  refine (c2 w1 hk1).mono ?_
  rintro e w2 ⟨rfl, hk2⟩
  go_wp2_with fail
  refine (c3 w2 hk2).mono ?_
  rintro e w3 ⟨rfl, hk3⟩
  go_wp2_with fail
  refine (c4 w3).mono ?_
  rintro e w4 ⟨rfl, rfl⟩
  go_wp2_with fail
  refine (c5 w4).mono ?_
  rintro e w5 ⟨rfl, rfl⟩
  go_wp2_with fail
  refine (c6 w5).mono ?_
  rintro e w6 ⟨rfl, rfl⟩
  go_wp2_with fail
  refine (c7 w6 hk3).mono ?_
  rintro e w7 ⟨rfl, hk7⟩
  go_wp2
  go_ret
  exact ⟨rfl, hk7⟩

end Go.Proofs.YtcfbmeljjmhdpaaGreatDoor
