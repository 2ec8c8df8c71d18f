/- head.Name. -/
import Derived.Test.YtgbjofahmkeapaaDoorNameP
import Derived.Test.YtgbjofahmkeapaaDoorHex
import Derived.Test.YtgbjofahmkeapaaDoorShelf
import Derived.Test.YtgbjofahmkeapaaDoorGood
namespace Go.Proofs.YtgbjofahmkeapaaDoor
open Go.RowKit Go.Shelf

def set_head : List UInt8 := [33, 35, 36, 37, 38, 39, 42, 43, 45, 46, 94, 95, 96, 124, 126]
theorem set_head_at : ∀ n : Nat, n < 128 → decide (0 ≤ Lib.indexByte (⟨#[33, 35, 36, 37, 38, 39, 42, 43, 45, 46, 94, 95, 96, 124, 126]⟩ : ByteArray).data.toList n.toUInt8) = set_head.contains (UInt8.ofNat n) := by decide +kernel
set_option maxHeartbeats 2000000 in
theorem pred_head (w : World) : PredAt Tryd.prog 47 #[] encR (fun r => !nmN set_head r) w := fun W r _ => by
  unfold FnGives
  dsimp only
  by_cases h0 : 128 ≤ r
  · have e : (!nmN set_head r) = true := by unfold nmN; rw [decide_eq_false (by omega)]; rfl
    rw [e]
    have q : decide ((128 : Int) ≤ (r : Int)) = true := decide_eq_true (by omega)
    go_enter Tryd.func47, Tryd.ntmps47
    go_wp2
    go_ret
    exact ⟨rfl, 0, rfl⟩
  · have q : decide ((128 : Int) ≤ (r : Int)) = false := decide_eq_false (by omega)
    have hA := ascii_AlphaN r (by omega)
    have hd := ascii_Digit r
    have hwr : IntKind.u8.wrap (r : Int) = r := by rw [IntKind.wrap_u8]; omega
    have hR := fun w => Tryd.strings_ContainsRune_ascii ⟨#[33, 35, 36, 37, 38, 39, 42, 43, 45, 46, 94, 95, 96, 124, 126]⟩ (r : Int) w (by omega) (by omega)
    rw [Int.toNat_natCast, set_head_at r (by omega)] at hR
    have hn : nmN set_head r = (alphaN r || decide (48 ≤ r ∧ r ≤ 57) || set_head.contains (UInt8.ofNat r)) := by unfold nmN; rw [decide_eq_true (by omega), Bool.true_and]
    rw [hn]
    cases ha : alphaN r with
    | true =>
      rw [ha] at hA
      rw [Bool.true_or, Bool.true_or]
      go_enter Tryd.func47, Tryd.ntmps47
      go_wp2_with (first | (go_at_call 48; refine (hA _).mono ?_; rintro e w1 ⟨rfl, rfl⟩))
      go_ret
      exact ⟨rfl, 0, rfl⟩
    | false =>
      rw [ha] at hA
      by_cases hg : 48 ≤ r ∧ r ≤ 57
      · rw [decide_eq_true hg] at hd ⊢
        rw [Bool.false_or, Bool.true_or]
        go_enter Tryd.func47, Tryd.ntmps47
        go_wp2_with (first | (go_at_call 48; refine (hA _).mono ?_; rintro e w1 ⟨rfl, rfl⟩) | (go_at_call 49; refine (hd _).mono ?_; rintro e w1 ⟨rfl, rfl⟩))
        go_ret
        exact ⟨rfl, 0, rfl⟩
      · rw [decide_eq_false hg] at hd ⊢
        rw [Bool.false_or, Bool.false_or]
        cases hs : set_head.contains (UInt8.ofNat r) with
        | true =>
          rw [hs] at hR
          go_enter Tryd.func47, Tryd.ntmps47
          go_wp2_with (first | (go_at_call 48; refine (hA _).mono ?_; rintro e w1 ⟨rfl, rfl⟩) | (go_at_call 49; refine (hd _).mono ?_; rintro e w1 ⟨rfl, rfl⟩) | (go_at_call 50; refine (hR _).mono ?_; rintro e w1 ⟨rfl, rfl⟩))
          go_ret
          exact ⟨rfl, 0, rfl⟩
        | false =>
          rw [hs] at hR
          go_enter Tryd.func47, Tryd.ntmps47
          go_wp2_with (first | (go_at_call 48; refine (hA _).mono ?_; rintro e w1 ⟨rfl, rfl⟩) | (go_at_call 49; refine (hd _).mono ?_; rintro e w1 ⟨rfl, rfl⟩) | (go_at_call 50; refine (hR _).mono ?_; rintro e w1 ⟨rfl, rfl⟩))
          go_ret
          exact ⟨rfl, 0, rfl⟩

def nameB (l : List UInt8) : Bool := !l.isEmpty && l.all (nmC set_head)
set_option maxHeartbeats 2000000 in
theorem head_Name_any (s : ByteArray) (w : World) :
    Calls Tryd.prog 27 #[.string s] w fun e w' => e = .returned (.bool (nameB s.data.toList)) ∧ Below w.heap.size w w' := by
  have hC := Tryd.strings_ContainsFunc 47 #[] (by intro args w; kernel_rfl) _ s w (pred_head w)
  rw [nm_any] at hC
  have he : s.toList.isEmpty = s.data.toList.isEmpty := by rw [ba_toList]
  unfold nameB
  cases h0 : s.data.toList.isEmpty with
  | true =>
    rw [h0] at he
    go_enter Tryd.func27, Tryd.ntmps27
    go_wp2
    go_ret
    exact ⟨rfl, Below.refl _ _⟩
  | false =>
    rw [h0] at he
    go_enter Tryd.func27, Tryd.ntmps27
    go_wp2_with (first | (go_at_call 51; refine hC.mono ?_; rintro e w1 ⟨rfl, hb1⟩))
    go_ret
    exact ⟨by simp, hb1⟩

end Go.Proofs.YtgbjofahmkeapaaDoor
