/- ascii.in, ascii.Digit, ascii.Hex. -/
import Derived.Test.YtgbjofahmkeapaaDoorHexP
import Derived.Test.YtgbjofahmkeapaaDoorB0
import Derived.Test.YtgbjofahmkeapaaDoorProg
namespace Go.Proofs.YtgbjofahmkeapaaDoor
open Go.RowKit

theorem ascii_in (c a b : Nat) (w : World) : Calls Tryd.prog 54 #[.int .u8 c, .int .u8 a, .int .u8 b] w fun e w' => e = .returned (.bool (decide (a ≤ c ∧ c ≤ b))) ∧ w' = w := by
  by_cases h1 : a ≤ c
  · by_cases h2 : c ≤ b
    · rw [decide_eq_true (show a ≤ c ∧ c ≤ b from ⟨h1, h2⟩)]
      go_enter Tryd.func54, Tryd.ntmps54
      go_wp2
      go_ret
      exact ⟨rfl, rfl⟩
    · rw [decide_eq_false (show ¬ (a ≤ c ∧ c ≤ b) from fun h => h2 h.2)]
      go_enter Tryd.func54, Tryd.ntmps54
      go_wp2
      go_ret
      exact ⟨rfl, rfl⟩
  · rw [decide_eq_false (show ¬ (a ≤ c ∧ c ≤ b) from fun h => h1 h.1)]
    go_enter Tryd.func54, Tryd.ntmps54
    go_wp2
    go_ret
    exact ⟨rfl, rfl⟩
theorem ascii_Digit (c : Nat) (w : World) : Calls Tryd.prog 49 #[.int .u8 c] w fun e w' => e = .returned (.bool (decide (48 ≤ c ∧ c ≤ 57))) ∧ w' = w := by
  obtain ⟨r, hr⟩ : ∃ r, r = decide (48 ≤ c ∧ c ≤ 57) := ⟨_, rfl⟩
  have h := ascii_in c 48 57 w
  rw [← hr] at h ⊢
  clear hr
  go_enter Tryd.func49, Tryd.ntmps49
  go_wp2_with fail
  refine h.mono ?_
  rintro e w1 ⟨rfl, rfl⟩
  go_wp2
  go_ret
  exact ⟨rfl, rfl⟩
end Go.Proofs.YtgbjofahmkeapaaDoor
