/- The laws of layer 1 (ascii): their example; AsciiTwice, AsciiLower. -/
import Derived.Test.YtcfbmeljjmhdpaaDoorClean
import Derived.Test.YtcfbmeljjmhdpaaDoorAlpha
import Derived.Test.YtcfbmeljjmhdpaaDoorLower
namespace Go.Proofs.YtcfbmeljjmhdpaaDoor
open Go.RowKit Go.Proofs.YtcfbmeljjmhdpaaDoorW.PrintWords

theorem low1a : lowL [65, 45, 98] = [97, 45, 98] := by decide +kernel
theorem low1b : lowL [97, 66] = lowL [65, 98] := by decide +kernel
theorem clean1 : cleanL [32, 97, 9, 98, 10] = [97, 98] := by decide +kernel
theorem trim1 : trimSp [32, 97, 32, 98, 32] = [97, 32, 98] := by decide +kernel
theorem hex1 : hexD 70 = 15 := by decide +kernel
theorem alpha1 : alphaB 122 = true := by decide +kernel
theorem digit1 : digitB 48 = true := by decide +kernel

theorem oLower {w0 w : World} (hk : Ok w0 w) (s : ByteArray) (hs : s.size ≤ 140737488351232) : Calls Tryd.prog 9 #[.string s] w fun e w' => e = .returned (.string ⟨(lowL s.data.toList).toArray⟩) ∧ Ok w0 w' := ok_below hk fun _ => ascii_Lower_any s hs w
theorem oSameA {w0 w : World} (hk : Ok w0 w) (s t : ByteArray) (hs : s.size ≤ 140737488351232) (ht : t.size ≤ 140737488351232) : Calls Tryd.prog 12 #[.string s, .string t] w fun e w' => e = .returned (.bool (lowL s.data.toList == lowL t.data.toList)) ∧ Ok w0 w' := ok_below hk fun _ => ascii_Same_any s t hs ht w
theorem oTrim {w0 w : World} (hk : Ok w0 w) (s : ByteArray) (hs : s.size ≤ 140737488351232) : Calls Tryd.prog 10 #[.string s] w fun e w' => e = .returned (.string ⟨(trimSp s.data.toList).toArray⟩) ∧ Ok w0 w' := ok_below hk fun hG => ascii_Trim_any s hs w hG
theorem oClean {w0 w : World} (hk : Ok w0 w) (s : ByteArray) (hs : s.size ≤ 1000000) : Calls Tryd.prog 11 #[.string s] w fun e w' => e = .returned (.string ⟨(cleanL s.data.toList).toArray⟩) ∧ Ok w0 w' := ok_below hk fun hG => ascii_Clean_any s hs w hG

set_option maxHeartbeats 2000000 in
set_option maxRecDepth 100000 in
theorem awake1 {w0 w : World} (hk : Ok w0 w) : Calls Tryd.prog 8 #[] w fun e w' => e = .returned (.bool true) ∧ Ok w0 w' := by
  have c1 := fun w (hk : Ok w0 w) => oLower hk ⟨#[65, 45, 98]⟩ (by decide)
  have c2 := fun w (hk : Ok w0 w) => oClean hk ⟨#[32, 97, 9, 98, 10]⟩ (by decide)
  have c3 := fun w (hk : Ok w0 w) => oTrim hk ⟨#[32, 97, 32, 98, 32]⟩ (by decide)
  have c4 : ∀ w, Calls Tryd.prog 14 #[.int .u8 70] w fun e w' => e = .returned (.int .i64 15) ∧ w' = w := fun w => by have := ascii_Hex 70 w; rw [hex1] at this; exact this
  have c5 : ∀ w, Calls Tryd.prog 13 #[.int .u8 122] w fun e w' => e = .returned (.bool true) ∧ w' = w := fun w => by have := ascii_Alpha_any 122 w; rw [alpha1] at this; exact this
  have c6 : ∀ w, Calls Tryd.prog 15 #[.int .u8 48] w fun e w' => e = .returned (.bool true) ∧ w' = w := fun w => by have := ascii_Digit_any 48 w; rw [digit1] at this; exact this
  have c7 := fun w (hk : Ok w0 w) => oSameA hk ⟨#[97, 66]⟩ ⟨#[65, 98]⟩ (by decide) (by decide)
  simp only [low1a, clean1, trim1] at c1 c2 c3
  simp only [low1b, beq_self_eq_true] at c7
  go_enter Tryd.func8, Tryd.ntmps8
  go_wp2_with fail
  refine (c1 w hk).mono ?_
  rintro e w1 ⟨rfl, hk1⟩
  go_wp2_with fail
  refine (c2 w1 hk1).mono ?_
  rintro e w2 ⟨rfl, hk2⟩
  go_wp2_with fail
  refine (c3 w2 hk2).mono ?_
  rintro e w3 ⟨rfl, hk3⟩
  go_wp2_with fail
  refine (c4 w3).mono ?_
  rintro e w4 ⟨rfl, rfl⟩
  go_wp2_with fail
  refine (c5 w4).mono ?_
  rintro e w5 ⟨rfl, rfl⟩
  go_wp2_with fail
  refine (c6 w5).mono ?_
  rintro e w6 ⟨rfl, rfl⟩
  go_wp2_with fail
  refine (c7 w6 hk3).mono ?_
  rintro e w7 ⟨rfl, hk7⟩
  go_wp2
  go_ret
  exact ⟨rfl, hk7⟩

theorem lowC_twice (c : UInt8) : lowC (lowC c) = lowC c := by
  have key : ∀ n : Nat, n < 256 → lowC (lowC (UInt8.ofNat n)) = lowC (UInt8.ofNat n) := by decide +kernel
  have := key c.toNat c.toNat_lt
  rwa [UInt8.ofNat_toNat] at this
theorem lowL_twice (l : List UInt8) : lowL (lowL l) = lowL l := by
  unfold lowL
  rw [List.map_map]
  exact List.map_congr_left fun c _ => lowC_twice c
theorem lowL_len (l : List UInt8) : (lowL l).length = l.length := by unfold lowL; simp

set_option maxHeartbeats 4000000 in
set_option maxRecDepth 100000 in
theorem law_AsciiTwice (s : ByteArray) (hs : s.size ≤ 140737488351232) (w : World) (hG : Good w) :
    Calls Tryd.prog 3 #[.string s] w fun e w' => e = .returned (.bool true) ∧ Below w.heap.size w w' := by
  have hk := Ok.refl hG
  by_cases hl : s.size ≤ 600
  · have hz := size_list s
    have e1 := lowL_len s.data.toList
    have e2 := trim_len s.data.toList
    have e3 := clean_len s.data.toList
    have c1 := fun w1 (hk : Ok w w1) => oLower hk s (by omega)
    have c2 := fun w1 (hk : Ok w w1) => oTrim hk s (by omega)
    have c3 := fun w1 (hk : Ok w w1) => oClean hk s (by omega)
    have z1 : (⟨(lowL s.data.toList).toArray⟩ : ByteArray).size = s.size := by rw [size_list, mk_toList, e1, ← hz]
    have z2 : (⟨(trimSp s.data.toList).toArray⟩ : ByteArray).size ≤ s.size := by rw [size_list, mk_toList]; omega
    have z3 : (⟨(cleanL s.data.toList).toArray⟩ : ByteArray).size ≤ (⟨(trimSp s.data.toList).toArray⟩ : ByteArray).size := by rw [size_list, mk_toList, size_list, mk_toList]; omega
    have d1 := fun w1 (hk : Ok w w1) => oLower hk ⟨(lowL s.data.toList).toArray⟩ (by omega)
    have d2 := fun w1 (hk : Ok w w1) => oTrim hk ⟨(trimSp s.data.toList).toArray⟩ (by omega)
    have d3 := fun w1 (hk : Ok w w1) => oClean hk ⟨(cleanL s.data.toList).toArray⟩ (by omega)
    simp only [mk_toList, lowL_twice, trim_twice, clean_twice] at d1 d2 d3
    generalize (⟨(lowL s.data.toList).toArray⟩ : ByteArray) = L at *
    generalize (⟨(trimSp s.data.toList).toArray⟩ : ByteArray) = T at *
    generalize (⟨(cleanL s.data.toList).toArray⟩ : ByteArray) = C at *
    have q1 : ((L.size : Int) == (s.size : Int)) = true := by rw [z1]; simp
    clear hz e1 e2 e3 z1
    go_enter Tryd.func3, Tryd.ntmps3
    go_wp2_with fail
    refine (awake1 hk).mono ?_
    rintro e w1 ⟨rfl, hk1⟩
    go_wp2_with fail
    refine (c1 w1 hk1).mono ?_
    rintro e w2 ⟨rfl, hk2⟩
    go_wp2_with fail
    refine (c2 w2 hk2).mono ?_
    rintro e w3 ⟨rfl, hk3⟩
    go_wp2_with fail
    refine (c3 w3 hk3).mono ?_
    rintro e w4 ⟨rfl, hk4⟩
    go_wp2_with fail
    refine (d1 w4 hk4).mono ?_
    rintro e w5 ⟨rfl, hk5⟩
    go_wp2_with fail
    refine (d2 w5 hk5).mono ?_
    rintro e w6 ⟨rfl, hk6⟩
    go_wp2_with fail
    refine (d3 w6 hk6).mono ?_
    rintro e w7 ⟨rfl, hk7⟩
    go_wp2
    go_ret
    exact ⟨rfl, hk7.below⟩
  · go_enter Tryd.func3, Tryd.ntmps3
    go_wp2_with fail
    refine (awake1 hk).mono ?_
    rintro e w1 ⟨rfl, hk1⟩
    go_wp2
    go_ret
    exact ⟨rfl, hk1.below⟩

theorem low_ways (c : UInt8) : (65 ≤ c.toNat ∧ c.toNat ≤ 90 ∧ (lowC c).toNat = c.toNat + 32) ∨ ((c.toNat < 65 ∨ 90 < c.toNat) ∧ lowC c = c) := by
  by_cases h : 65 ≤ c.toNat ∧ c.toNat ≤ 90
  · refine .inl ⟨h.1, h.2, ?_⟩
    have := lowC_wrap c.toNat c.toNat_lt h.1 h.2
    rw [UInt8.ofNat_toNat, IntKind.wrap_u8] at this
    omega
  · exact .inr ⟨by omega, lowC_small h⟩
theorem low_same {c d : UInt8} (h : lowC c = lowC d) (hne : d ≠ c) : alphaB c = true ∧ alphaB d = true := by
  have key : ∀ n : Nat, n < 256 → ∀ m : Nat, m < 256 → lowC (UInt8.ofNat n) = lowC (UInt8.ofNat m) → m ≠ n → alphaN n = true ∧ alphaN m = true := by decide +kernel
  have := key c.toNat c.toNat_lt d.toNat d.toNat_lt (by rw [UInt8.ofNat_toNat, UInt8.ofNat_toNat]; exact h) (fun e => hne (UInt8.toNat_inj.1 e))
  exact this

end Go.Proofs.YtcfbmeljjmhdpaaDoor
