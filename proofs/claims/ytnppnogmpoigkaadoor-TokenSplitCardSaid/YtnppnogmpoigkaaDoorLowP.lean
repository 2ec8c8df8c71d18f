/- Small letters: plain functions. No program in sight. -/
import Derived.Test.YtnppnogmpoigkaaDoorB0
namespace Go.Proofs.YtnppnogmpoigkaaDoor

/-- A capital letter as a small one. -/
def lowC (c : UInt8) : UInt8 := if 65 ≤ c.toNat ∧ c.toNat ≤ 90 then c + 32 else c
def lowL (l : List UInt8) : List UInt8 := l.map lowC
theorem lowC_wrap : ∀ n : Nat, n < 256 → 65 ≤ n → n ≤ 90 → IntKind.u8.wrap ((n : Int) + 32) = ((lowC (UInt8.ofNat n)).toNat : Int) := by decide +kernel
theorem lowC_small {c : UInt8} (h : ¬ (65 ≤ c.toNat ∧ c.toNat ≤ 90)) : lowC c = c := by unfold lowC; rw [if_neg h]

end Go.Proofs.YtnppnogmpoigkaaDoor
