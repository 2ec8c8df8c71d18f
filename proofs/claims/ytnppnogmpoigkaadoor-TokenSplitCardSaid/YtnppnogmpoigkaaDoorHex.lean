/- ascii.in, ascii.Digit, ascii.Hex. -/
import Derived.Test.YtnppnogmpoigkaaDoorHexP
import Derived.Test.YtnppnogmpoigkaaDoorB0
import Derived.Test.YtnppnogmpoigkaaDoorProg
namespace Go.Proofs.YtnppnogmpoigkaaDoor
open Go.RowKit

theorem ascii_in (c a b : Nat) (w : World) : Calls Tryd.prog 34 #[.int .u8 c, .int .u8 a, .int .u8 b] w fun e w' => e = .returned (.bool (decide (a ≤ c ∧ c ≤ b))) ∧ w' = w := by
  by_cases h1 : a ≤ c
  · by_cases h2 : c ≤ b
    · rw [decide_eq_true (show a ≤ c ∧ c ≤ b from ⟨h1, h2⟩)]
      go_enter Tryd.func34, Tryd.ntmps34
      go_wp2
      go_ret
      exact ⟨rfl, rfl⟩
    · rw [decide_eq_false (show ¬ (a ≤ c ∧ c ≤ b) from fun h => h2 h.2)]
      go_enter Tryd.func34, Tryd.ntmps34
      go_wp2
      go_ret
      exact ⟨rfl, rfl⟩
  · rw [decide_eq_false (show ¬ (a ≤ c ∧ c ≤ b) from fun h => h1 h.1)]
    go_enter Tryd.func34, Tryd.ntmps34
    go_wp2
    go_ret
    exact ⟨rfl, rfl⟩
end Go.Proofs.YtnppnogmpoigkaaDoor
