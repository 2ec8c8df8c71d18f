/- ascii.Alpha. -/
import Derived.Test.YtgbjofahmkeapaaDoorHex
namespace Go.Proofs.YtgbjofahmkeapaaDoor
open Go.RowKit

def alphaN (n : Nat) : Bool := decide (65 ≤ n ∧ n ≤ 90) || decide (97 ≤ n ∧ n ≤ 122)
def alphaB (c : UInt8) : Bool := alphaN c.toNat
def digitB (c : UInt8) : Bool := decide (48 ≤ c.toNat ∧ c.toNat ≤ 57)
theorem alpha_or : ∀ n : Nat, n < 256 → alphaN n = (decide (97 ≤ (n ||| 32) ∧ (n ||| 32) ≤ 122) && decide (n < 128)) := by decide +kernel

set_option maxHeartbeats 1000000 in
set_option maxRecDepth 100000 in
theorem ascii_AlphaN (n : Nat) (hn : n < 256) (w : World) : Calls Tryd.prog 48 #[.int .u8 n] w fun e w' => e = .returned (.bool (alphaN n)) ∧ w' = w := by
  rw [alpha_or n hn]
  obtain ⟨hor, hk, _⟩ := or32 n hn
  generalize (n ||| 32 : Nat) = k at *
  have hIn := ascii_in k 97 122 w
  generalize decide (97 ≤ k ∧ k ≤ 122) = b at *
  cases b with
  | false =>
    go_enter Tryd.func48, Tryd.ntmps48
    go_wp2_with (go_at_call 54; refine hIn.mono ?_; rintro e w1 ⟨rfl, rfl⟩)
    go_ret
    exact ⟨rfl, rfl⟩
  | true =>
    by_cases h : n < 128
    · rw [decide_eq_true h]
      have hq : decide ((n : Int) < 128) = true := decide_eq_true (by omega)
      go_enter Tryd.func48, Tryd.ntmps48
      go_wp2_with (go_at_call 54; refine hIn.mono ?_; rintro e w1 ⟨rfl, rfl⟩)
      go_ret
      exact ⟨rfl, rfl⟩
    · rw [decide_eq_false h]
      have hq : decide ((n : Int) < 128) = false := decide_eq_false (by omega)
      go_enter Tryd.func48, Tryd.ntmps48
      go_wp2_with (go_at_call 54; refine hIn.mono ?_; rintro e w1 ⟨rfl, rfl⟩)
      go_ret
      exact ⟨rfl, rfl⟩
theorem ascii_Alpha_any (c : UInt8) (w : World) : Calls Tryd.prog 48 #[.int .u8 c.toNat] w fun e w' => e = .returned (.bool (alphaB c)) ∧ w' = w := ascii_AlphaN c.toNat c.toNat_lt w
theorem ascii_Digit_any (c : UInt8) (w : World) : Calls Tryd.prog 49 #[.int .u8 c.toNat] w fun e w' => e = .returned (.bool (digitB c)) ∧ w' = w := ascii_Digit c.toNat w

end Go.Proofs.YtgbjofahmkeapaaDoor
