/- The law AsciiTells, walked over the contracts. -/
import Derived.Test.YtcfbmeljjmhdpaaGreatDoorAw1
import Derived.Test.YtcfbmeljjmhdpaaGreatDoorRef1t
import Derived.OpenShut
namespace Go.Proofs.YtcfbmeljjmhdpaaGreatDoor
open Go.RowKit Go.Proofs.YtcfbmeljjmhdpaaGreatDoorW.PrintWords

set_option maxHeartbeats 8000000 in
set_option maxRecDepth 100000 in
theorem law_AsciiTells (c : Int) (s t : ByteArray) (hc : (Lit.int .u8 c).wf = true) (hs : s.size ≤ 140737488351232) (ht : t.size ≤ 140737488351232) (w : World) (hG : Good w) :
    Calls Tryz.prog 3 #[.int .u8 c, .string s, .string t] w fun e w' => e = .returned (.bool true) ∧ Below w.heap.size w w' := by
  have hk := Ok.refl hG
  have hcb := bounds_u8 hc
  obtain ⟨x, rfl⟩ : ∃ x : UInt8, c = (x.toNat : Int) := ⟨UInt8.ofNat c.toNat, by rw [UInt8.toNat_ofNat']; omega⟩
  clear hc hcb
  by_cases hl : s.size ≤ 600
  · by_cases hm : t.size ≤ 600
    · have a1 := fun w => ascii_Alpha_any x w
      have a2 := fun w => ascii_Digit_any x w
      have a3 := fun w => ascii_Hex x w
      have a4 := fun w1 (hk : Ok w w1) => oLower hk s (by omega)
      have a5 := fun w1 (hk : Ok w w1) => oSameA hk s t (by omega) (by omega)
      have a6 := fun w1 (hk : Ok w w1) => oTrim hk s (by omega)
      have a7 := fun w1 (hk : Ok w w1) => oClean hk s (by omega)
      have b1 := fun w => ref1_Alpha x w
      have b2 := fun w => ref1_Digit x w
      have b3 := fun w => ref01_Hex x w
      have b4 := fun w1 (hk : Ok w w1) => ok_below hk fun _ => ref1_Lower s (by omega) w1
      have b5 := fun w1 (hk : Ok w w1) => ok_below hk fun _ => ref1_Same s t (by omega) (by omega) w1
      have b6 := fun w1 (hk : Ok w w1) => ok_below hk fun _ => ref1_Trim s (by omega) w1
      have b7 := fun w1 (hk : Ok w w1) => ok_below hk fun _ => ref1_Clean s (by omega) w1
      generalize (lowL s.data.toList == lowL t.data.toList) = S at *
      generalize (⟨(lowL s.data.toList).toArray⟩ : ByteArray) = L at *
      generalize (⟨(trimSp s.data.toList).toArray⟩ : ByteArray) = T at *
      generalize (⟨(cleanL s.data.toList).toArray⟩ : ByteArray) = C at *
      generalize alphaB x = A at *
      generalize digitB x = D at *
      generalize hexD x = H at *
      have q1 : (A == A) = true := beq_self_eq_true _
      have q2 : (D == D) = true := beq_self_eq_true _
      have q3 : (S == S) = true := beq_self_eq_true _
      have q4 : ((H : Int) == H) = true := beq_self_eq_true _
      go_enter Tryz.func3, Tryz.ntmps3
      go_wp2_with fail
      refine (awake1 hk).mono ?_
      rintro e w1 ⟨rfl, hk1⟩
      go_wp2_with fail
      refine (b1 w1).mono ?_
      rintro e w2 ⟨rfl, rfl⟩
      go_wp2_with fail
      refine (b2 _).mono ?_
      rintro e w3 ⟨rfl, rfl⟩
      go_wp2_with fail
      refine (b5 _ hk1).mono ?_
      rintro e w4 ⟨rfl, hk4⟩
      go_wp2_with fail
      refine (a1 _).mono ?_
      rintro e w5 ⟨rfl, rfl⟩
      go_wp2_with fail
      refine (a2 _).mono ?_
      rintro e w6 ⟨rfl, rfl⟩
      go_wp2_with fail
      refine (a3 _).mono ?_
      rintro e w7 ⟨rfl, rfl⟩
      go_wp2_with fail
      refine (b3 _).mono ?_
      rintro e w8 ⟨rfl, rfl⟩
      go_wp2_with fail
      refine (a4 _ hk4).mono ?_
      rintro e w9 ⟨rfl, hk9⟩
      go_wp2_with fail
      refine (b4 _ hk9).mono ?_
      rintro e wa ⟨rfl, hka⟩
      go_wp2_with fail
      refine (a5 _ hka).mono ?_
      rintro e wb ⟨rfl, hkb⟩
      go_wp2_with fail
      refine (a6 _ hkb).mono ?_
      rintro e wc ⟨rfl, hkc⟩
      go_wp2_with fail
      refine (b6 _ hkc).mono ?_
      rintro e wd ⟨rfl, hkd⟩
      go_wp2_with fail
      refine (a7 _ hkd).mono ?_
      rintro e we ⟨rfl, hke⟩
      go_wp2_with fail
      refine (b7 _ hke).mono ?_
      rintro e wf ⟨rfl, hkf⟩
      go_wp2
      go_ret
      exact ⟨rfl, hkf.below⟩
    · go_enter Tryz.func3, Tryz.ntmps3
      go_wp2_with fail
      refine (awake1 hk).mono ?_
      rintro e w1 ⟨rfl, hk1⟩
      go_wp2
      go_ret
      exact ⟨rfl, hk1.below⟩
  · go_enter Tryz.func3, Tryz.ntmps3
    go_wp2_with fail
    refine (awake1 hk).mono ?_
    rintro e w1 ⟨rfl, hk1⟩
    go_wp2
    go_ret
    exact ⟨rfl, hk1.below⟩

end Go.Proofs.YtcfbmeljjmhdpaaGreatDoor
