/- The law TokenLast, walked over the contracts. -/
import Derived.Test.YtnppnogmpoigkaaDoorTokP
namespace Go.Proofs.YtnppnogmpoigkaaDoor
open Go.RowKit Go.Proofs.YtnppnogmpoigkaaDoorW.PrintWords
set_option linter.unusedVariables false
set_option linter.unnecessarySimpa false
set_option linter.unusedSimpArgs false

set_option maxHeartbeats 8000000 in
set_option maxRecDepth 100000 in
theorem tl_long_a (a b x : ByteArray) (w : World) (hG : Good w) (h_a : 300 < a.size) :
    Calls Tryd.prog 5 #[.string a, .string b, .string x] w fun e w' => e = .returned (.bool true) ∧ Below w.heap.size w w' := by
  have d_a : decide ((300 : Int) < (a.size : Int)) = true := decide_eq_true (by omega)
  have e_a : decide (300 < a.size) = true := decide_eq_true (by omega)
  clear h_a
  have hk0 := Ok.refl hG
  go_enter Tryd.func5, Tryd.ntmps5
  go_wp2_with fail
  refine (awake14 w hk0.good).mono ?_
  rintro e w1 ⟨rfl, hb1⟩
  have hkc1 := hk0.step hb1
  go_wp2
  go_ret
  exact ⟨rfl, hkc1.below⟩

set_option maxHeartbeats 8000000 in
set_option maxRecDepth 100000 in
theorem tl_long_b (a b x : ByteArray) (w : World) (hG : Good w) (h_a : a.size ≤ 300) (h_b : 300 < b.size) :
    Calls Tryd.prog 5 #[.string a, .string b, .string x] w fun e w' => e = .returned (.bool true) ∧ Below w.heap.size w w' := by
  have d_a : decide ((300 : Int) < (a.size : Int)) = false := decide_eq_false (by omega)
  have e_a : decide (300 < a.size) = false := decide_eq_false (by omega)
  have d_b : decide ((300 : Int) < (b.size : Int)) = true := decide_eq_true (by omega)
  have e_b : decide (300 < b.size) = true := decide_eq_true (by omega)
  clear h_a
  clear h_b
  have hk0 := Ok.refl hG
  go_enter Tryd.func5, Tryd.ntmps5
  go_wp2_with fail
  refine (awake14 w hk0.good).mono ?_
  rintro e w1 ⟨rfl, hb1⟩
  have hkc1 := hk0.step hb1
  go_wp2
  go_ret
  exact ⟨rfl, hkc1.below⟩

set_option maxHeartbeats 8000000 in
set_option maxRecDepth 100000 in
theorem tl_long_x (a b x : ByteArray) (w : World) (hG : Good w) (h_a : a.size ≤ 300) (h_b : b.size ≤ 300) (h_x : 300 < x.size) :
    Calls Tryd.prog 5 #[.string a, .string b, .string x] w fun e w' => e = .returned (.bool true) ∧ Below w.heap.size w w' := by
  have d_a : decide ((300 : Int) < (a.size : Int)) = false := decide_eq_false (by omega)
  have e_a : decide (300 < a.size) = false := decide_eq_false (by omega)
  have d_b : decide ((300 : Int) < (b.size : Int)) = false := decide_eq_false (by omega)
  have e_b : decide (300 < b.size) = false := decide_eq_false (by omega)
  have d_x : decide ((300 : Int) < (x.size : Int)) = true := decide_eq_true (by omega)
  have e_x : decide (300 < x.size) = true := decide_eq_true (by omega)
  clear h_a
  clear h_b
  clear h_x
  have hk0 := Ok.refl hG
  go_enter Tryd.func5, Tryd.ntmps5
  go_wp2_with fail
  refine (awake14 w hk0.good).mono ?_
  rintro e w1 ⟨rfl, hb1⟩
  have hkc1 := hk0.step hb1
  go_wp2
  go_ret
  exact ⟨rfl, hkc1.below⟩

set_option maxHeartbeats 8000000 in
set_option maxRecDepth 100000 in
theorem tl_11 (a b x : ByteArray) (w : World) (hG : Good w) (h_a : a.size ≤ 300) (h_b : b.size ≤ 300) (h_x : x.size ≤ 300) (hq : lastP (splitT b.data.toList) = 0) (hx : lastP (splitT x.data.toList) = 0) :
    Calls Tryd.prog 5 #[.string a, .string b, .string x] w fun e w' => e = .returned (.bool true) ∧ Below w.heap.size w w' := by
  have e1 : (a ++ ⟨#[44]⟩ ++ b : ByteArray).data.toList = a.data.toList ++ 44 :: b.data.toList := by simp [ByteArray.data_append]
  have e2 : (a ++ ⟨#[44]⟩ ++ x : ByteArray).data.toList = a.data.toList ++ 44 :: x.data.toList := by simp [ByteArray.data_append]
  have e3 : (x ++ ⟨#[32, 44]⟩ ++ a : ByteArray).data.toList = (x.data.toList ++ [32]) ++ 44 :: a.data.toList := by simp [ByteArray.data_append]
  have e4 : (a ++ ⟨#[44, 32]⟩ ++ x ++ ⟨#[44]⟩ ++ b : ByteArray).data.toList = a.data.toList ++ 44 :: ((32 :: x.data.toList) ++ 44 :: b.data.toList) := by simp [ByteArray.data_append]
  have z1 := congrArg List.length e1
  have z2 := congrArg List.length e2
  have z3 := congrArg List.length e3
  have z4 := congrArg List.length e4
  simp only [List.length_append, List.length_cons, List.length_nil, ← size_list] at z1 z2 z3 z4
  have cA := fun w1 (hG : Good w1) => tok_Last_any a (by omega) w1 hG
  have cB := fun w1 (hG : Good w1) => tok_Last_any b (by omega) w1 hG
  have cX := fun w1 (hG : Good w1) => tok_Last_any x (by omega) w1 hG
  have cAB := fun w1 (hG : Good w1) => tok_Last_any (a ++ ⟨#[44]⟩ ++ b) (by omega) w1 hG
  have cAX := fun w1 (hG : Good w1) => tok_Last_any (a ++ ⟨#[44]⟩ ++ x) (by omega) w1 hG
  have cXA := fun w1 (hG : Good w1) => tok_Last_any (x ++ ⟨#[32, 44]⟩ ++ a) (by omega) w1 hG
  have cAXB := fun w1 (hG : Good w1) => tok_Last_any (a ++ ⟨#[44, 32]⟩ ++ x ++ ⟨#[44]⟩ ++ b) (by omega) w1 hG
  rw [e1, splitT_two, lastP_append] at cAB
  rw [e2, splitT_two, lastP_append] at cAX
  rw [e3, splitT_two, splitT_back (by decide), lastP_append] at cXA
  rw [e4, splitT_two, splitT_two, splitT_front (by decide), lastP_append, lastP_append] at cAXB
  clear e1 e2 e3 e4 z1 z2 z3 z4
  generalize lastP (splitT a.data.toList) = p at *
  generalize lastP (splitT b.data.toList) = q at *
  generalize lastP (splitT x.data.toList) = r at *
  subst hq
  simp only [if_true] at cAB cAXB
  subst hx
  simp only [if_true] at cAX
  rw [show (if p = 0 then 0 else p) = p by split <;> omega] at cXA
  simp only [if_true] at cAXB
  have d_a : decide ((300 : Int) < (a.size : Int)) = false := decide_eq_false (by omega)
  have e_a : decide (300 < a.size) = false := decide_eq_false (by omega)
  have d_b : decide ((300 : Int) < (b.size : Int)) = false := decide_eq_false (by omega)
  have e_b : decide (300 < b.size) = false := decide_eq_false (by omega)
  have d_x : decide ((300 : Int) < (x.size : Int)) = false := decide_eq_false (by omega)
  have e_x : decide (300 < x.size) = false := decide_eq_false (by omega)
  have hk0 := Ok.refl hG
  go_enter Tryd.func5, Tryd.ntmps5
  go_wp2_with fail
  refine (awake14 w hk0.good).mono ?_
  rintro e w1 ⟨rfl, hb1⟩
  have hkc1 := hk0.step hb1
  go_wp2_with fail
  refine (cA w1 hkc1.good).mono ?_
  rintro e w2 ⟨rfl, hb2⟩
  have hkc2 := hkc1.step hb2
  go_wp2_with fail
  refine (cB w2 hkc2.good).mono ?_
  rintro e w3 ⟨rfl, hb3⟩
  have hkc3 := hkc2.step hb3
  go_wp2_with fail
  refine (cAB w3 hkc3.good).mono ?_
  rintro e w4 ⟨rfl, hb4⟩
  have hkc4 := hkc3.step hb4
  go_wp2_with fail
  refine (cX w4 hkc4.good).mono ?_
  rintro e w5 ⟨rfl, hb5⟩
  have hkc5 := hkc4.step hb5
  go_wp2_with fail
  refine (cAX w5 hkc5.good).mono ?_
  rintro e w6 ⟨rfl, hb6⟩
  have hkc6 := hkc5.step hb6
  go_wp2_with fail
  refine (cXA w6 hkc6.good).mono ?_
  rintro e w7 ⟨rfl, hb7⟩
  have hkc7 := hkc6.step hb7
  go_wp2_with fail
  refine (cAXB w7 hkc7.good).mono ?_
  rintro e w8 ⟨rfl, hb8⟩
  have hkc8 := hkc7.step hb8
  go_wp2
  go_ret
  exact ⟨rfl, hkc8.below⟩

set_option maxHeartbeats 8000000 in
set_option maxRecDepth 100000 in
theorem tl_10 (a b x : ByteArray) (w : World) (hG : Good w) (h_a : a.size ≤ 300) (h_b : b.size ≤ 300) (h_x : x.size ≤ 300) (hq : lastP (splitT b.data.toList) = 0) (hx : lastP (splitT x.data.toList) ≠ 0) :
    Calls Tryd.prog 5 #[.string a, .string b, .string x] w fun e w' => e = .returned (.bool true) ∧ Below w.heap.size w w' := by
  have e1 : (a ++ ⟨#[44]⟩ ++ b : ByteArray).data.toList = a.data.toList ++ 44 :: b.data.toList := by simp [ByteArray.data_append]
  have e2 : (a ++ ⟨#[44]⟩ ++ x : ByteArray).data.toList = a.data.toList ++ 44 :: x.data.toList := by simp [ByteArray.data_append]
  have e3 : (x ++ ⟨#[32, 44]⟩ ++ a : ByteArray).data.toList = (x.data.toList ++ [32]) ++ 44 :: a.data.toList := by simp [ByteArray.data_append]
  have e4 : (a ++ ⟨#[44, 32]⟩ ++ x ++ ⟨#[44]⟩ ++ b : ByteArray).data.toList = a.data.toList ++ 44 :: ((32 :: x.data.toList) ++ 44 :: b.data.toList) := by simp [ByteArray.data_append]
  have z1 := congrArg List.length e1
  have z2 := congrArg List.length e2
  have z3 := congrArg List.length e3
  have z4 := congrArg List.length e4
  simp only [List.length_append, List.length_cons, List.length_nil, ← size_list] at z1 z2 z3 z4
  have cA := fun w1 (hG : Good w1) => tok_Last_any a (by omega) w1 hG
  have cB := fun w1 (hG : Good w1) => tok_Last_any b (by omega) w1 hG
  have cX := fun w1 (hG : Good w1) => tok_Last_any x (by omega) w1 hG
  have cAB := fun w1 (hG : Good w1) => tok_Last_any (a ++ ⟨#[44]⟩ ++ b) (by omega) w1 hG
  have cAX := fun w1 (hG : Good w1) => tok_Last_any (a ++ ⟨#[44]⟩ ++ x) (by omega) w1 hG
  have cXA := fun w1 (hG : Good w1) => tok_Last_any (x ++ ⟨#[32, 44]⟩ ++ a) (by omega) w1 hG
  have cAXB := fun w1 (hG : Good w1) => tok_Last_any (a ++ ⟨#[44, 32]⟩ ++ x ++ ⟨#[44]⟩ ++ b) (by omega) w1 hG
  rw [e1, splitT_two, lastP_append] at cAB
  rw [e2, splitT_two, lastP_append] at cAX
  rw [e3, splitT_two, splitT_back (by decide), lastP_append] at cXA
  rw [e4, splitT_two, splitT_two, splitT_front (by decide), lastP_append, lastP_append] at cAXB
  clear e1 e2 e3 e4 z1 z2 z3 z4
  generalize lastP (splitT a.data.toList) = p at *
  generalize lastP (splitT b.data.toList) = q at *
  generalize lastP (splitT x.data.toList) = r at *
  subst hq
  simp only [if_true] at cAB cAXB
  have r1 : ((r : Int) == 0) = false := beq_eq_false_iff_ne.2 (by omega)
  have r2 : (r == 0) = false := beq_eq_false_iff_ne.2 hx
  clear cAX cXA cAXB hx
  have d_a : decide ((300 : Int) < (a.size : Int)) = false := decide_eq_false (by omega)
  have e_a : decide (300 < a.size) = false := decide_eq_false (by omega)
  have d_b : decide ((300 : Int) < (b.size : Int)) = false := decide_eq_false (by omega)
  have e_b : decide (300 < b.size) = false := decide_eq_false (by omega)
  have d_x : decide ((300 : Int) < (x.size : Int)) = false := decide_eq_false (by omega)
  have e_x : decide (300 < x.size) = false := decide_eq_false (by omega)
  have hk0 := Ok.refl hG
  go_enter Tryd.func5, Tryd.ntmps5
  go_wp2_with fail
  refine (awake14 w hk0.good).mono ?_
  rintro e w1 ⟨rfl, hb1⟩
  have hkc1 := hk0.step hb1
  go_wp2_with fail
  refine (cA w1 hkc1.good).mono ?_
  rintro e w2 ⟨rfl, hb2⟩
  have hkc2 := hkc1.step hb2
  go_wp2_with fail
  refine (cB w2 hkc2.good).mono ?_
  rintro e w3 ⟨rfl, hb3⟩
  have hkc3 := hkc2.step hb3
  go_wp2_with fail
  refine (cAB w3 hkc3.good).mono ?_
  rintro e w4 ⟨rfl, hb4⟩
  have hkc4 := hkc3.step hb4
  go_wp2_with fail
  refine (cX w4 hkc4.good).mono ?_
  rintro e w5 ⟨rfl, hb5⟩
  have hkc5 := hkc4.step hb5
  go_wp2
  go_ret
  exact ⟨rfl, hkc5.below⟩

set_option maxHeartbeats 8000000 in
set_option maxRecDepth 100000 in
theorem tl_01 (a b x : ByteArray) (w : World) (hG : Good w) (h_a : a.size ≤ 300) (h_b : b.size ≤ 300) (h_x : x.size ≤ 300) (hq : lastP (splitT b.data.toList) ≠ 0) (hx : lastP (splitT x.data.toList) = 0) :
    Calls Tryd.prog 5 #[.string a, .string b, .string x] w fun e w' => e = .returned (.bool true) ∧ Below w.heap.size w w' := by
  have e1 : (a ++ ⟨#[44]⟩ ++ b : ByteArray).data.toList = a.data.toList ++ 44 :: b.data.toList := by simp [ByteArray.data_append]
  have e2 : (a ++ ⟨#[44]⟩ ++ x : ByteArray).data.toList = a.data.toList ++ 44 :: x.data.toList := by simp [ByteArray.data_append]
  have e3 : (x ++ ⟨#[32, 44]⟩ ++ a : ByteArray).data.toList = (x.data.toList ++ [32]) ++ 44 :: a.data.toList := by simp [ByteArray.data_append]
  have e4 : (a ++ ⟨#[44, 32]⟩ ++ x ++ ⟨#[44]⟩ ++ b : ByteArray).data.toList = a.data.toList ++ 44 :: ((32 :: x.data.toList) ++ 44 :: b.data.toList) := by simp [ByteArray.data_append]
  have z1 := congrArg List.length e1
  have z2 := congrArg List.length e2
  have z3 := congrArg List.length e3
  have z4 := congrArg List.length e4
  simp only [List.length_append, List.length_cons, List.length_nil, ← size_list] at z1 z2 z3 z4
  have cA := fun w1 (hG : Good w1) => tok_Last_any a (by omega) w1 hG
  have cB := fun w1 (hG : Good w1) => tok_Last_any b (by omega) w1 hG
  have cX := fun w1 (hG : Good w1) => tok_Last_any x (by omega) w1 hG
  have cAB := fun w1 (hG : Good w1) => tok_Last_any (a ++ ⟨#[44]⟩ ++ b) (by omega) w1 hG
  have cAX := fun w1 (hG : Good w1) => tok_Last_any (a ++ ⟨#[44]⟩ ++ x) (by omega) w1 hG
  have cXA := fun w1 (hG : Good w1) => tok_Last_any (x ++ ⟨#[32, 44]⟩ ++ a) (by omega) w1 hG
  have cAXB := fun w1 (hG : Good w1) => tok_Last_any (a ++ ⟨#[44, 32]⟩ ++ x ++ ⟨#[44]⟩ ++ b) (by omega) w1 hG
  rw [e1, splitT_two, lastP_append] at cAB
  rw [e2, splitT_two, lastP_append] at cAX
  rw [e3, splitT_two, splitT_back (by decide), lastP_append] at cXA
  rw [e4, splitT_two, splitT_two, splitT_front (by decide), lastP_append, lastP_append] at cAXB
  clear e1 e2 e3 e4 z1 z2 z3 z4
  generalize lastP (splitT a.data.toList) = p at *
  generalize lastP (splitT b.data.toList) = q at *
  generalize lastP (splitT x.data.toList) = r at *
  rw [if_neg hq] at cAB
  have q1 : ((q : Int) == 0) = false := beq_eq_false_iff_ne.2 (by omega)
  have q2 : (q == 0) = false := beq_eq_false_iff_ne.2 hq
  subst hx
  simp only [if_true] at cAX
  rw [show (if p = 0 then 0 else p) = p by split <;> omega] at cXA
  rw [if_neg hq, if_neg hq] at cAXB
  clear hq
  have d_a : decide ((300 : Int) < (a.size : Int)) = false := decide_eq_false (by omega)
  have e_a : decide (300 < a.size) = false := decide_eq_false (by omega)
  have d_b : decide ((300 : Int) < (b.size : Int)) = false := decide_eq_false (by omega)
  have e_b : decide (300 < b.size) = false := decide_eq_false (by omega)
  have d_x : decide ((300 : Int) < (x.size : Int)) = false := decide_eq_false (by omega)
  have e_x : decide (300 < x.size) = false := decide_eq_false (by omega)
  have hk0 := Ok.refl hG
  go_enter Tryd.func5, Tryd.ntmps5
  go_wp2_with fail
  refine (awake14 w hk0.good).mono ?_
  rintro e w1 ⟨rfl, hb1⟩
  have hkc1 := hk0.step hb1
  go_wp2_with fail
  refine (cA w1 hkc1.good).mono ?_
  rintro e w2 ⟨rfl, hb2⟩
  have hkc2 := hkc1.step hb2
  go_wp2_with fail
  refine (cB w2 hkc2.good).mono ?_
  rintro e w3 ⟨rfl, hb3⟩
  have hkc3 := hkc2.step hb3
  go_wp2_with fail
  refine (cAB w3 hkc3.good).mono ?_
  rintro e w4 ⟨rfl, hb4⟩
  have hkc4 := hkc3.step hb4
  go_wp2_with fail
  refine (cX w4 hkc4.good).mono ?_
  rintro e w5 ⟨rfl, hb5⟩
  have hkc5 := hkc4.step hb5
  go_wp2_with fail
  refine (cAX w5 hkc5.good).mono ?_
  rintro e w6 ⟨rfl, hb6⟩
  have hkc6 := hkc5.step hb6
  go_wp2_with fail
  refine (cXA w6 hkc6.good).mono ?_
  rintro e w7 ⟨rfl, hb7⟩
  have hkc7 := hkc6.step hb7
  go_wp2_with fail
  refine (cAXB w7 hkc7.good).mono ?_
  rintro e w8 ⟨rfl, hb8⟩
  have hkc8 := hkc7.step hb8
  go_wp2
  go_ret
  exact ⟨rfl, hkc8.below⟩

set_option maxHeartbeats 8000000 in
set_option maxRecDepth 100000 in
theorem tl_00 (a b x : ByteArray) (w : World) (hG : Good w) (h_a : a.size ≤ 300) (h_b : b.size ≤ 300) (h_x : x.size ≤ 300) (hq : lastP (splitT b.data.toList) ≠ 0) (hx : lastP (splitT x.data.toList) ≠ 0) :
    Calls Tryd.prog 5 #[.string a, .string b, .string x] w fun e w' => e = .returned (.bool true) ∧ Below w.heap.size w w' := by
  have e1 : (a ++ ⟨#[44]⟩ ++ b : ByteArray).data.toList = a.data.toList ++ 44 :: b.data.toList := by simp [ByteArray.data_append]
  have e2 : (a ++ ⟨#[44]⟩ ++ x : ByteArray).data.toList = a.data.toList ++ 44 :: x.data.toList := by simp [ByteArray.data_append]
  have e3 : (x ++ ⟨#[32, 44]⟩ ++ a : ByteArray).data.toList = (x.data.toList ++ [32]) ++ 44 :: a.data.toList := by simp [ByteArray.data_append]
  have e4 : (a ++ ⟨#[44, 32]⟩ ++ x ++ ⟨#[44]⟩ ++ b : ByteArray).data.toList = a.data.toList ++ 44 :: ((32 :: x.data.toList) ++ 44 :: b.data.toList) := by simp [ByteArray.data_append]
  have z1 := congrArg List.length e1
  have z2 := congrArg List.length e2
  have z3 := congrArg List.length e3
  have z4 := congrArg List.length e4
  simp only [List.length_append, List.length_cons, List.length_nil, ← size_list] at z1 z2 z3 z4
  have cA := fun w1 (hG : Good w1) => tok_Last_any a (by omega) w1 hG
  have cB := fun w1 (hG : Good w1) => tok_Last_any b (by omega) w1 hG
  have cX := fun w1 (hG : Good w1) => tok_Last_any x (by omega) w1 hG
  have cAB := fun w1 (hG : Good w1) => tok_Last_any (a ++ ⟨#[44]⟩ ++ b) (by omega) w1 hG
  have cAX := fun w1 (hG : Good w1) => tok_Last_any (a ++ ⟨#[44]⟩ ++ x) (by omega) w1 hG
  have cXA := fun w1 (hG : Good w1) => tok_Last_any (x ++ ⟨#[32, 44]⟩ ++ a) (by omega) w1 hG
  have cAXB := fun w1 (hG : Good w1) => tok_Last_any (a ++ ⟨#[44, 32]⟩ ++ x ++ ⟨#[44]⟩ ++ b) (by omega) w1 hG
  rw [e1, splitT_two, lastP_append] at cAB
  rw [e2, splitT_two, lastP_append] at cAX
  rw [e3, splitT_two, splitT_back (by decide), lastP_append] at cXA
  rw [e4, splitT_two, splitT_two, splitT_front (by decide), lastP_append, lastP_append] at cAXB
  clear e1 e2 e3 e4 z1 z2 z3 z4
  generalize lastP (splitT a.data.toList) = p at *
  generalize lastP (splitT b.data.toList) = q at *
  generalize lastP (splitT x.data.toList) = r at *
  rw [if_neg hq] at cAB
  have q1 : ((q : Int) == 0) = false := beq_eq_false_iff_ne.2 (by omega)
  have q2 : (q == 0) = false := beq_eq_false_iff_ne.2 hq
  have r1 : ((r : Int) == 0) = false := beq_eq_false_iff_ne.2 (by omega)
  have r2 : (r == 0) = false := beq_eq_false_iff_ne.2 hx
  clear cAX cXA cAXB hx
  clear hq
  have d_a : decide ((300 : Int) < (a.size : Int)) = false := decide_eq_false (by omega)
  have e_a : decide (300 < a.size) = false := decide_eq_false (by omega)
  have d_b : decide ((300 : Int) < (b.size : Int)) = false := decide_eq_false (by omega)
  have e_b : decide (300 < b.size) = false := decide_eq_false (by omega)
  have d_x : decide ((300 : Int) < (x.size : Int)) = false := decide_eq_false (by omega)
  have e_x : decide (300 < x.size) = false := decide_eq_false (by omega)
  have hk0 := Ok.refl hG
  go_enter Tryd.func5, Tryd.ntmps5
  go_wp2_with fail
  refine (awake14 w hk0.good).mono ?_
  rintro e w1 ⟨rfl, hb1⟩
  have hkc1 := hk0.step hb1
  go_wp2_with fail
  refine (cA w1 hkc1.good).mono ?_
  rintro e w2 ⟨rfl, hb2⟩
  have hkc2 := hkc1.step hb2
  go_wp2_with fail
  refine (cB w2 hkc2.good).mono ?_
  rintro e w3 ⟨rfl, hb3⟩
  have hkc3 := hkc2.step hb3
  go_wp2_with fail
  refine (cAB w3 hkc3.good).mono ?_
  rintro e w4 ⟨rfl, hb4⟩
  have hkc4 := hkc3.step hb4
  go_wp2_with fail
  refine (cX w4 hkc4.good).mono ?_
  rintro e w5 ⟨rfl, hb5⟩
  have hkc5 := hkc4.step hb5
  go_wp2
  go_ret
  exact ⟨rfl, hkc5.below⟩

theorem law_TokenLast (a b x : ByteArray) (_h0 : a.size ≤ 140737488351232) (_h1 : b.size ≤ 140737488351232) (_h2 : x.size ≤ 140737488351232) (w : World) (hG : Good w) :
    Calls Tryd.prog 5 #[.string a, .string b, .string x] w fun e w' => e = .returned (.bool true) ∧ Below w.heap.size w w' := by
  rcases Nat.lt_or_ge 300 a.size with h_a | h_a
  · exact tl_long_a a b x w hG h_a
  · rcases Nat.lt_or_ge 300 b.size with h_b | h_b
    · exact tl_long_b a b x w hG h_a h_b
    · rcases Nat.lt_or_ge 300 x.size with h_x | h_x
      · exact tl_long_x a b x w hG h_a h_b h_x
      · by_cases hq : lastP (splitT b.data.toList) = 0 <;> by_cases hx : lastP (splitT x.data.toList) = 0
        · exact tl_11 a b x w hG h_a h_b h_x hq hx
        · exact tl_10 a b x w hG h_a h_b h_x hq hx
        · exact tl_01 a b x w hG h_a h_b h_x hq hx
        · exact tl_00 a b x w hG h_a h_b h_x hq hx

end Go.Proofs.YtnppnogmpoigkaaDoor
