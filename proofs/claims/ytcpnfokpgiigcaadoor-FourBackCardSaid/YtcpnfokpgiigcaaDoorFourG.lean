/- four.Show and four.Parse in the form of contracts that the print takes. -/
import Derived.Test.YtcpnfokpgiigcaaDoorFourP
namespace Go.Proofs.YtcpnfokpgiigcaaDoor
open Go.RowKit Go.Proofs.YtcpnfokpgiigcaaDoorW.PrintWords

theorem four_Show_no (n : Int) (h : n < 0 ∨ 4294967295 < n) (w : World) :
    Calls Tryd.prog 19 #[.int .i64 n] w fun e w' => e = .returned (.string ⟨#[]⟩) ∧ Below w.heap.size w w' := by
  by_cases h0 : n < 0
  · have hlt : decide (n < 0) = true := by simpa using h0
    go_enter Tryd.func19, Tryd.ntmps19
    go_wp2
    go_ret
    exact ⟨rfl, Below.refl _ _⟩
  · have hlt : decide (n < 0) = false := by simp; omega
    have hgt : decide (4294967295 < n) = true := by simp; omega
    go_enter Tryd.func19, Tryd.ntmps19
    go_wp2
    go_ret
    exact ⟨rfl, Below.refl _ _⟩
def showF (n : Int) : List UInt8 := if 0 ≤ n ∧ n ≤ 4294967295 then showFour n.toNat else []
def four_Show.f (a0 : Int) : Option ByteArray := some ⟨(showF a0).toArray⟩
theorem four_Show.calls (a0 : Int) (r : ByteArray) (w : World) (_hG : Good w) (h : four_Show.f a0 = some r) :
    Calls Tryd.prog 19 #[.int .i64 a0] w fun e w' => e = .returned (.string r) ∧ Below w.heap.size w w' := by
  obtain rfl := Option.some.inj h
  unfold showF
  by_cases hb : 0 ≤ a0 ∧ a0 ≤ 4294967295
  · rw [if_pos hb]; exact four_Show_any a0 hb.1 hb.2 w
  · rw [if_neg hb]; exact four_Show_no a0 (by omega) w
def four_Parse.f (a0 : ByteArray) : Option (Int × Bool) := if a0.size < 4294967281 then some (parseFour a0.data.toList) else none
theorem four_Parse.calls (a0 : ByteArray) (r1 : Int) (r2 : Bool) (w : World) (hG : Good w) (h : four_Parse.f a0 = some (r1, r2)) :
    Calls Tryd.prog 15 #[.string a0] w fun e w' => e = .returned (.tuple #[.int .i64 r1, .bool r2]) ∧ Below w.heap.size w w' := by
  unfold four_Parse.f at h
  split at h
  · rename_i hs
    have := Option.some.inj h
    have hp := four_Parse_any a0 hs w hG
    rw [this] at hp
    exact hp
  · cases h

end Go.Proofs.YtcpnfokpgiigcaaDoor
