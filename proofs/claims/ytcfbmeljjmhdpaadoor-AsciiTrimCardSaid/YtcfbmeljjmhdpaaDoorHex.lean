/- ascii.in, ascii.Digit, ascii.Hex. -/
import Derived.Test.YtcfbmeljjmhdpaaDoorHexP
import Derived.Test.YtcfbmeljjmhdpaaDoorB0
import Derived.Test.YtcfbmeljjmhdpaaDoorProg
namespace Go.Proofs.YtcfbmeljjmhdpaaDoor
open Go.RowKit

theorem ascii_in (c a b : Nat) (w : World) : Calls Tryd.prog 17 #[.int .u8 c, .int .u8 a, .int .u8 b] w fun e w' => e = .returned (.bool (decide (a ≤ c ∧ c ≤ b))) ∧ w' = w := by
  by_cases h1 : a ≤ c
  · by_cases h2 : c ≤ b
    · rw [decide_eq_true (show a ≤ c ∧ c ≤ b from ⟨h1, h2⟩)]
      go_enter Tryd.func17, Tryd.ntmps17
      go_wp2
      go_ret
      exact ⟨rfl, rfl⟩
    · rw [decide_eq_false (show ¬ (a ≤ c ∧ c ≤ b) from fun h => h2 h.2)]
      go_enter Tryd.func17, Tryd.ntmps17
      go_wp2
      go_ret
      exact ⟨rfl, rfl⟩
  · rw [decide_eq_false (show ¬ (a ≤ c ∧ c ≤ b) from fun h => h1 h.1)]
    go_enter Tryd.func17, Tryd.ntmps17
    go_wp2
    go_ret
    exact ⟨rfl, rfl⟩
theorem ascii_Digit (c : Nat) (w : World) : Calls Tryd.prog 15 #[.int .u8 c] w fun e w' => e = .returned (.bool (decide (48 ≤ c ∧ c ≤ 57))) ∧ w' = w := by
  obtain ⟨r, hr⟩ : ∃ r, r = decide (48 ≤ c ∧ c ≤ 57) := ⟨_, rfl⟩
  have h := ascii_in c 48 57 w
  rw [← hr] at h ⊢
  clear hr
  go_enter Tryd.func15, Tryd.ntmps15
  go_wp2_with fail
  refine h.mono ?_
  rintro e w1 ⟨rfl, rfl⟩
  go_wp2
  go_ret
  exact ⟨rfl, rfl⟩
set_option maxHeartbeats 1000000 in
theorem ascii_Hex (c : UInt8) (w : World) : Calls Tryd.prog 14 #[.int .u8 c.toNat] w fun e w' => e = .returned (.int .i64 (hexD c)) ∧ w' = w := by
  have hc : c.toNat < 256 := c.toNat_lt
  have hcs := hexD_cases c
  obtain ⟨D, hD⟩ : ∃ D, Hid (hexD c = D) := ⟨_, rfl⟩
  rw [hD.out] at hcs
  generalize c.toNat = n at *
  obtain ⟨hor, hk, k1, k2, k3, k4⟩ := or32 n hc
  generalize hkk : (n ||| 32 : Nat) = k at *
  have hDg := ascii_Digit n w
  have hIn := ascii_in k 97 102 w
  by_cases h1 : 48 ≤ n ∧ n ≤ 57
  · have hd : D = (n : Int) - 48 := by omega
    rw [decide_eq_true h1] at hDg
    obtain ⟨h1, h2⟩ := h1
    clear hcs k1 k2 k3 k4 hIn hor
    go_enter Tryd.func14, Tryd.ntmps14
    go_wp2_with (go_at_call 15; refine hDg.mono ?_; rintro e w1 ⟨rfl, rfl⟩)
    go_ret
    refine ⟨?_, rfl⟩
    rw [hD.out, hd]
    rfl
  · rw [decide_eq_false h1] at hDg
    by_cases h2 : (97 ≤ k ∧ k ≤ 102) ∧ 65 ≤ n
    · have hd : D = (k : Int) - 87 := by omega
      rw [decide_eq_true h2.1] at hIn
      obtain ⟨⟨h2, h3⟩, h4⟩ := h2
      clear hcs k1 k2 k3 k4 h1
      go_enter Tryd.func14, Tryd.ntmps14
      go_wp2_with (first | (go_at_call 15; refine hDg.mono ?_; rintro e w1 ⟨rfl, rfl⟩) | (go_at_call 17; refine hIn.mono ?_; rintro e w1 ⟨rfl, rfl⟩))
      go_ret
      refine ⟨?_, rfl⟩
      rw [hD.out, hd]
      refine congrArg (fun x => Ending.returned (Value.int .i64 x)) ?_
      omega
    · have hd : D = -1 := by omega
      subst hd
      by_cases h3 : 97 ≤ k ∧ k ≤ 102
      · have h4 : n < 65 := by omega
        rw [decide_eq_true h3] at hIn
        clear hcs k1 k2 k3 k4 h1 h2 h3
        go_enter Tryd.func14, Tryd.ntmps14
        go_wp2_with (first | (go_at_call 15; refine hDg.mono ?_; rintro e w1 ⟨rfl, rfl⟩) | (go_at_call 17; refine hIn.mono ?_; rintro e w1 ⟨rfl, rfl⟩))
        go_ret
        refine ⟨?_, rfl⟩
        rw [hD.out]; rfl
      · rw [decide_eq_false h3] at hIn
        clear hcs k1 k2 k3 k4 h1 h2 h3
        go_enter Tryd.func14, Tryd.ntmps14
        go_wp2_with (first | (go_at_call 15; refine hDg.mono ?_; rintro e w1 ⟨rfl, rfl⟩) | (go_at_call 17; refine hIn.mono ?_; rintro e w1 ⟨rfl, rfl⟩))
        go_ret
        refine ⟨?_, rfl⟩
        rw [hD.out]; rfl

end Go.Proofs.YtcfbmeljjmhdpaaDoor
