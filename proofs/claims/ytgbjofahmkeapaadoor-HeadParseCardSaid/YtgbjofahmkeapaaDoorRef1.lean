/- The document's answers of layer 1. -/
import Derived.Test.YtgbjofahmkeapaaDoorAlpha
import Derived.Test.YtgbjofahmkeapaaDoorRef1H
import Derived.Test.YtgbjofahmkeapaaDoorAscP
import Derived.Test.YtgbjofahmkeapaaDoorByteBlk
import Derived.Test.YtgbjofahmkeapaaDoorApp
import Derived.Test.YtgbjofahmkeapaaDoorEv
namespace Go.Proofs.YtgbjofahmkeapaaDoor
open Go.RowKit Go.Proofs.YtgbjofahmkeapaaDoorW.PrintWords

set_option maxHeartbeats 1000000 in
theorem ref1_Alpha (c : UInt8) (w : World) : Calls Tryd.prog 43 #[.int .u8 c.toNat] w fun e w' => e = .returned (.bool (alphaB c)) ∧ w' = w := by
  unfold alphaB alphaN
  generalize c.toNat = n at *
  by_cases h1 : 65 ≤ n
  · by_cases h2 : n ≤ 90
    · rw [decide_eq_true (show 65 ≤ n ∧ n ≤ 90 from ⟨h1, h2⟩)]
      first | have a1 : decide ((65 : Int) ≤ (n : Int)) = true := decide_eq_true (by omega) | have a1 : decide ((65 : Int) ≤ (n : Int)) = false := decide_eq_false (by omega)
      first | have a2 : decide ((n : Int) ≤ (90 : Int)) = true := decide_eq_true (by omega) | have a2 : decide ((n : Int) ≤ (90 : Int)) = false := decide_eq_false (by omega)
      first | have a3 : decide ((97 : Int) ≤ (n : Int)) = true := decide_eq_true (by omega) | have a3 : decide ((97 : Int) ≤ (n : Int)) = false := decide_eq_false (by omega)
      first | have a4 : decide ((n : Int) ≤ (122 : Int)) = true := decide_eq_true (by omega) | have a4 : decide ((n : Int) ≤ (122 : Int)) = false := decide_eq_false (by omega)
      go_enter Tryd.func43, Tryd.ntmps43
      go_wp2
      go_ret
      exact ⟨rfl, rfl⟩
    · by_cases h3 : 97 ≤ n
      · by_cases h4 : n ≤ 122
        · rw [decide_eq_false (show ¬ (65 ≤ n ∧ n ≤ 90) from fun h => h2 h.2), decide_eq_true (show 97 ≤ n ∧ n ≤ 122 from ⟨h3, h4⟩)]
          first | have a1 : decide ((65 : Int) ≤ (n : Int)) = true := decide_eq_true (by omega) | have a1 : decide ((65 : Int) ≤ (n : Int)) = false := decide_eq_false (by omega)
          first | have a2 : decide ((n : Int) ≤ (90 : Int)) = true := decide_eq_true (by omega) | have a2 : decide ((n : Int) ≤ (90 : Int)) = false := decide_eq_false (by omega)
          first | have a3 : decide ((97 : Int) ≤ (n : Int)) = true := decide_eq_true (by omega) | have a3 : decide ((97 : Int) ≤ (n : Int)) = false := decide_eq_false (by omega)
          first | have a4 : decide ((n : Int) ≤ (122 : Int)) = true := decide_eq_true (by omega) | have a4 : decide ((n : Int) ≤ (122 : Int)) = false := decide_eq_false (by omega)
          go_enter Tryd.func43, Tryd.ntmps43
          go_wp2
          go_ret
          exact ⟨rfl, rfl⟩
        · rw [decide_eq_false (show ¬ (65 ≤ n ∧ n ≤ 90) from fun h => h2 h.2), decide_eq_false (show ¬ (97 ≤ n ∧ n ≤ 122) from fun h => h4 h.2)]
          first | have a1 : decide ((65 : Int) ≤ (n : Int)) = true := decide_eq_true (by omega) | have a1 : decide ((65 : Int) ≤ (n : Int)) = false := decide_eq_false (by omega)
          first | have a2 : decide ((n : Int) ≤ (90 : Int)) = true := decide_eq_true (by omega) | have a2 : decide ((n : Int) ≤ (90 : Int)) = false := decide_eq_false (by omega)
          first | have a3 : decide ((97 : Int) ≤ (n : Int)) = true := decide_eq_true (by omega) | have a3 : decide ((97 : Int) ≤ (n : Int)) = false := decide_eq_false (by omega)
          first | have a4 : decide ((n : Int) ≤ (122 : Int)) = true := decide_eq_true (by omega) | have a4 : decide ((n : Int) ≤ (122 : Int)) = false := decide_eq_false (by omega)
          go_enter Tryd.func43, Tryd.ntmps43
          go_wp2
          go_ret
          exact ⟨rfl, rfl⟩
      · rw [decide_eq_false (show ¬ (65 ≤ n ∧ n ≤ 90) from fun h => h2 h.2), decide_eq_false (show ¬ (97 ≤ n ∧ n ≤ 122) from fun h => h3 h.1)]
        first | have a1 : decide ((65 : Int) ≤ (n : Int)) = true := decide_eq_true (by omega) | have a1 : decide ((65 : Int) ≤ (n : Int)) = false := decide_eq_false (by omega)
        first | have a2 : decide ((n : Int) ≤ (90 : Int)) = true := decide_eq_true (by omega) | have a2 : decide ((n : Int) ≤ (90 : Int)) = false := decide_eq_false (by omega)
        first | have a3 : decide ((97 : Int) ≤ (n : Int)) = true := decide_eq_true (by omega) | have a3 : decide ((97 : Int) ≤ (n : Int)) = false := decide_eq_false (by omega)
        first | have a4 : decide ((n : Int) ≤ (122 : Int)) = true := decide_eq_true (by omega) | have a4 : decide ((n : Int) ≤ (122 : Int)) = false := decide_eq_false (by omega)
        go_enter Tryd.func43, Tryd.ntmps43
        go_wp2
        go_ret
        exact ⟨rfl, rfl⟩
  · have h3 : ¬ 97 ≤ n := by omega
    rw [decide_eq_false (show ¬ (65 ≤ n ∧ n ≤ 90) from fun h => h1 h.1), decide_eq_false (show ¬ (97 ≤ n ∧ n ≤ 122) from fun h => h3 h.1)]
    first | have a1 : decide ((65 : Int) ≤ (n : Int)) = true := decide_eq_true (by omega) | have a1 : decide ((65 : Int) ≤ (n : Int)) = false := decide_eq_false (by omega)
    first | have a2 : decide ((n : Int) ≤ (90 : Int)) = true := decide_eq_true (by omega) | have a2 : decide ((n : Int) ≤ (90 : Int)) = false := decide_eq_false (by omega)
    first | have a3 : decide ((97 : Int) ≤ (n : Int)) = true := decide_eq_true (by omega) | have a3 : decide ((97 : Int) ≤ (n : Int)) = false := decide_eq_false (by omega)
    first | have a4 : decide ((n : Int) ≤ (122 : Int)) = true := decide_eq_true (by omega) | have a4 : decide ((n : Int) ≤ (122 : Int)) = false := decide_eq_false (by omega)
    go_enter Tryd.func43, Tryd.ntmps43
    go_wp2
    go_ret
    exact ⟨rfl, rfl⟩
theorem ref1_Digit (c : UInt8) (w : World) : Calls Tryd.prog 44 #[.int .u8 c.toNat] w fun e w' => e = .returned (.bool (digitB c)) ∧ w' = w := by
  unfold digitB
  generalize c.toNat = n at *
  by_cases h1 : 48 ≤ n
  · by_cases h2 : n ≤ 57
    · rw [decide_eq_true (show 48 ≤ n ∧ n ≤ 57 from ⟨h1, h2⟩)]
      first | have a1 : decide ((48 : Int) ≤ (n : Int)) = true := decide_eq_true (by omega) | have a1 : decide ((48 : Int) ≤ (n : Int)) = false := decide_eq_false (by omega)
      first | have a2 : decide ((n : Int) ≤ (57 : Int)) = true := decide_eq_true (by omega) | have a2 : decide ((n : Int) ≤ (57 : Int)) = false := decide_eq_false (by omega)
      go_enter Tryd.func44, Tryd.ntmps44
      go_wp2
      go_ret
      exact ⟨rfl, rfl⟩
    · rw [decide_eq_false (show ¬ (48 ≤ n ∧ n ≤ 57) from fun h => h2 h.2)]
      first | have a1 : decide ((48 : Int) ≤ (n : Int)) = true := decide_eq_true (by omega) | have a1 : decide ((48 : Int) ≤ (n : Int)) = false := decide_eq_false (by omega)
      first | have a2 : decide ((n : Int) ≤ (57 : Int)) = true := decide_eq_true (by omega) | have a2 : decide ((n : Int) ≤ (57 : Int)) = false := decide_eq_false (by omega)
      go_enter Tryd.func44, Tryd.ntmps44
      go_wp2
      go_ret
      exact ⟨rfl, rfl⟩
  · rw [decide_eq_false (show ¬ (48 ≤ n ∧ n ≤ 57) from fun h => h1 h.1)]
    first | have a1 : decide ((48 : Int) ≤ (n : Int)) = true := decide_eq_true (by omega) | have a1 : decide ((48 : Int) ≤ (n : Int)) = false := decide_eq_false (by omega)
    first | have a2 : decide ((n : Int) ≤ (57 : Int)) = true := decide_eq_true (by omega) | have a2 : decide ((n : Int) ≤ (57 : Int)) = false := decide_eq_false (by omega)
    go_enter Tryd.func44, Tryd.ntmps44
    go_wp2
    go_ret
    exact ⟨rfl, rfl⟩

end Go.Proofs.YtgbjofahmkeapaaDoor
