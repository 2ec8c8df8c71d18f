/- What a byte is worth to the base of 16. No program in sight. -/
import Derived.WalkKit
namespace Go.Proofs.YtnppnogmpoigkaaDoor

def hexD (c : UInt8) : Int := if 48 ≤ c.toNat ∧ c.toNat ≤ 57 then (c.toNat : Int) - 48 else if 97 ≤ c.toNat ∧ c.toNat ≤ 102 then (c.toNat : Int) - 87 else if 65 ≤ c.toNat ∧ c.toNat ≤ 70 then (c.toNat : Int) - 55 else -1
theorem hexD_bd (c : UInt8) : -1 ≤ hexD c ∧ hexD c ≤ 15 := by
  unfold hexD; split
  · omega
  · split
    · omega
    · split <;> omega
theorem hexD_dig {c : UInt8} (h0 : 48 ≤ c.toNat) (h1 : c.toNat ≤ 57) : hexD c = (c.toNat : Int) - 48 := by unfold hexD; rw [if_pos ⟨h0, h1⟩]
theorem hexD_low {c : UInt8} (h0 : 97 ≤ c.toNat) (h1 : c.toNat ≤ 102) : hexD c = (c.toNat : Int) - 87 := by unfold hexD; rw [if_neg (by omega), if_pos ⟨h0, h1⟩]
theorem hexD_cap {c : UInt8} (h0 : 65 ≤ c.toNat) (h1 : c.toNat ≤ 70) : hexD c = (c.toNat : Int) - 55 := by unfold hexD; rw [if_neg (by omega), if_neg (by omega), if_pos ⟨h0, h1⟩]
theorem hexD_no {c : UInt8} (h0 : c.toNat < 48 ∨ 57 < c.toNat) (h1 : c.toNat < 97 ∨ 102 < c.toNat) (h2 : c.toNat < 65 ∨ 70 < c.toNat) : hexD c = -1 := by unfold hexD; rw [if_neg (by omega), if_neg (by omega), if_neg (by omega)]

theorem hexD_cases (c : UInt8) : (c.toNat < 48 ∧ hexD c = -1) ∨ (48 ≤ c.toNat ∧ c.toNat ≤ 57 ∧ hexD c = (c.toNat : Int) - 48) ∨ (58 ≤ c.toNat ∧ c.toNat < 65 ∧ hexD c = -1) ∨ (65 ≤ c.toNat ∧ c.toNat ≤ 70 ∧ hexD c = (c.toNat : Int) - 55) ∨ (71 ≤ c.toNat ∧ c.toNat < 97 ∧ hexD c = -1) ∨ (97 ≤ c.toNat ∧ c.toNat ≤ 102 ∧ hexD c = (c.toNat : Int) - 87) ∨ (103 ≤ c.toNat ∧ hexD c = -1) := by
  rcases Nat.lt_or_ge c.toNat 48 with h | h
  · exact Or.inl ⟨h, hexD_no (by omega) (by omega) (by omega)⟩
  right
  rcases Nat.lt_or_ge c.toNat 58 with h2 | h2
  · exact Or.inl ⟨h, by omega, hexD_dig h (by omega)⟩
  right
  rcases Nat.lt_or_ge c.toNat 65 with h3 | h3
  · exact Or.inl ⟨h2, h3, hexD_no (by omega) (by omega) (by omega)⟩
  right
  rcases Nat.lt_or_ge c.toNat 71 with h4 | h4
  · exact Or.inl ⟨h3, by omega, hexD_cap h3 (by omega)⟩
  right
  rcases Nat.lt_or_ge c.toNat 97 with h5 | h5
  · exact Or.inl ⟨h4, h5, hexD_no (by omega) (by omega) (by omega)⟩
  right
  rcases Nat.lt_or_ge c.toNat 103 with h6 | h6
  · exact Or.inl ⟨h5, by omega, hexD_low h5 (by omega)⟩
  · exact Or.inr ⟨h6, hexD_no (by omega) (by omega) (by omega)⟩

theorem or32 : ∀ n : Nat, n < 256 → Go.bits .or .u8 (n : Int) 32 = ((n ||| 32 : Nat) : Int) ∧ (n ||| 32) < 256 ∧ (65 ≤ n → n ≤ 90 → n ||| 32 = n + 32) ∧ (97 ≤ n → n ≤ 122 → n ||| 32 = n) ∧ (71 ≤ n → n < 97 → ¬ (97 ≤ (n ||| 32) ∧ (n ||| 32) ≤ 102)) ∧ (103 ≤ n → ¬ (97 ≤ (n ||| 32) ∧ (n ||| 32) ≤ 102)) := by decide +kernel

end Go.Proofs.YtnppnogmpoigkaaDoor
