/- The document's answer for what a byte is worth. -/
import Derived.Test.YtcfbmeljjmhdpaaGreatDoorHexP
import Derived.Test.YtcfbmeljjmhdpaaGreatDoorB0
import Derived.Test.YtcfbmeljjmhdpaaGreatDoorProg
namespace Go.Proofs.YtcfbmeljjmhdpaaGreatDoor
open Go.RowKit

set_option maxHeartbeats 1000000 in
theorem ref01_Hex (c : UInt8) (w : World) : Calls Tryz.prog 11 #[.int .u8 c.toNat] w fun e w' => e = .returned (.int .i64 (hexD c)) ∧ w' = w := by
  have hc : c.toNat < 256 := c.toNat_lt
  rcases hexD_cases c with ⟨h, e⟩ | ⟨h, h2, e⟩ | ⟨h, h2, e⟩ | ⟨h, h2, e⟩ | ⟨h, h2, e⟩ | ⟨h, h2, e⟩ | ⟨h, e⟩
  all_goals (rw [e]; clear e; generalize c.toNat = n at *)
  all_goals go_enter Tryz.func11, Tryz.ntmps11
  all_goals go_wp2
  all_goals go_ret
  all_goals refine ⟨?_, rfl⟩
  all_goals first | rfl | (refine congrArg (fun x => Ending.returned (Value.int .i64 x)) ?_; omega)


end Go.Proofs.YtcfbmeljjmhdpaaGreatDoor
