/- ascii.Alpha. -/
import Derived.Test.YtnppnogmpoigkaaDoorHex
namespace Go.Proofs.YtnppnogmpoigkaaDoor
open Go.RowKit

def alphaN (n : Nat) : Bool := decide (65 ≤ n ∧ n ≤ 90) || decide (97 ≤ n ∧ n ≤ 122)
def alphaB (c : UInt8) : Bool := alphaN c.toNat
def digitB (c : UInt8) : Bool := decide (48 ≤ c.toNat ∧ c.toNat ≤ 57)
theorem alpha_or : ∀ n : Nat, n < 256 → alphaN n = (decide (97 ≤ (n ||| 32) ∧ (n ||| 32) ≤ 122) && decide (n < 128)) := by decide +kernel

end Go.Proofs.YtnppnogmpoigkaaDoor
