/- The laws HeadSet and HeadDrop, walked over the contracts. -/
import Derived.Test.YtgbjofahmkeapaaDoorHeadP
import Derived.Test.YtgbjofahmkeapaaDoorHead0
namespace Go.Proofs.YtgbjofahmkeapaaDoor
open Go.RowKit Go.Proofs.YtgbjofahmkeapaaDoorW.PrintWords
set_option linter.unusedVariables false
set_option linter.unnecessarySimpa false
set_option linter.unusedSimpArgs false

theorem few_sm2 {L : List Fld} (h : few13 L = true) : SmF 60 L := few13_yes h

set_option maxHeartbeats 8000000 in
set_option maxRecDepth 100000 in
theorem set_few (aoA : Option Addr) (caA : Nat) (A : List Fld) (n v u : List UInt8) (w : World) (hG : Good w) (hA0 : Hid (Flds w.heap.size w (.slice aoA A.length caA) A))
    (cFA : ∀ w1 : World, Flds w1.heap.size w1 (.slice aoA A.length caA) A → Calls Tryd.prog 11 #[.slice aoA A.length caA] w1 fun e w' => e = .returned (.bool false) ∧ Below w1.heap.size w1 w') :
    Calls Tryd.prog 4 #[.slice aoA A.length caA, .string ⟨n.toArray⟩, .string ⟨v.toArray⟩, .string ⟨u.toArray⟩] w fun e w' => e = .returned (.bool true) ∧ Below w.heap.size w w' := by
  have hk0 := Ok.refl hG
  go_enter Tryd.func4, Tryd.ntmps4
  go_wp2_with fail
  refine (awake13 w hk0.good).mono ?_
  rintro e w1 ⟨rfl, hb1⟩
  have hkc1 := hk0.step hb1
  have hA1 := Lib.hid ((hA0.out.below hb1).mono hb1.size)
  clear hA0
  go_wp2_with fail
  refine (cFA w1 hA1.out).mono ?_
  rintro e w2 ⟨rfl, hb2⟩
  have hkc2 := hkc1.step hb2
  have hA2 := Lib.hid ((hA1.out.below hb2).mono hb2.size)
  clear hA1
  go_wp2
  go_ret
  exact ⟨rfl, hkc2.below⟩

set_option maxHeartbeats 8000000 in
set_option maxRecDepth 100000 in
theorem set_long_n (aoA : Option Addr) (caA : Nat) (A : List Fld) (n v u : List UInt8) (w : World) (hG : Good w) (hA0 : Hid (Flds w.heap.size w (.slice aoA A.length caA) A))
    (cFA : ∀ w1 : World, Flds w1.heap.size w1 (.slice aoA A.length caA) A → Calls Tryd.prog 11 #[.slice aoA A.length caA] w1 fun e w' => e = .returned (.bool true) ∧ Below w1.heap.size w1 w') (h_n : 300 < n.length) :
    Calls Tryd.prog 4 #[.slice aoA A.length caA, .string ⟨n.toArray⟩, .string ⟨v.toArray⟩, .string ⟨u.toArray⟩] w fun e w' => e = .returned (.bool true) ∧ Below w.heap.size w w' := by
  have d_n : decide ((300 : Int) < (n.length : Int)) = true := decide_eq_true (by omega)
  have e_n : decide (300 < n.length) = true := decide_eq_true (by omega)
  clear h_n
  have hk0 := Ok.refl hG
  go_enter Tryd.func4, Tryd.ntmps4
  go_wp2_with fail
  refine (awake13 w hk0.good).mono ?_
  rintro e w1 ⟨rfl, hb1⟩
  have hkc1 := hk0.step hb1
  have hA1 := Lib.hid ((hA0.out.below hb1).mono hb1.size)
  clear hA0
  go_wp2_with fail
  refine (cFA w1 hA1.out).mono ?_
  rintro e w2 ⟨rfl, hb2⟩
  have hkc2 := hkc1.step hb2
  have hA2 := Lib.hid ((hA1.out.below hb2).mono hb2.size)
  clear hA1
  go_wp2
  go_ret
  exact ⟨rfl, hkc2.below⟩

set_option maxHeartbeats 8000000 in
set_option maxRecDepth 100000 in
theorem set_long_v (aoA : Option Addr) (caA : Nat) (A : List Fld) (n v u : List UInt8) (w : World) (hG : Good w) (hA0 : Hid (Flds w.heap.size w (.slice aoA A.length caA) A))
    (cFA : ∀ w1 : World, Flds w1.heap.size w1 (.slice aoA A.length caA) A → Calls Tryd.prog 11 #[.slice aoA A.length caA] w1 fun e w' => e = .returned (.bool true) ∧ Below w1.heap.size w1 w') (h_n : n.length ≤ 300) (h_v : 300 < v.length) :
    Calls Tryd.prog 4 #[.slice aoA A.length caA, .string ⟨n.toArray⟩, .string ⟨v.toArray⟩, .string ⟨u.toArray⟩] w fun e w' => e = .returned (.bool true) ∧ Below w.heap.size w w' := by
  have d_n : decide ((300 : Int) < (n.length : Int)) = false := decide_eq_false (by omega)
  have e_n : decide (300 < n.length) = false := decide_eq_false (by omega)
  have d_v : decide ((300 : Int) < (v.length : Int)) = true := decide_eq_true (by omega)
  have e_v : decide (300 < v.length) = true := decide_eq_true (by omega)
  clear h_n
  clear h_v
  have hk0 := Ok.refl hG
  go_enter Tryd.func4, Tryd.ntmps4
  go_wp2_with fail
  refine (awake13 w hk0.good).mono ?_
  rintro e w1 ⟨rfl, hb1⟩
  have hkc1 := hk0.step hb1
  have hA1 := Lib.hid ((hA0.out.below hb1).mono hb1.size)
  clear hA0
  go_wp2_with fail
  refine (cFA w1 hA1.out).mono ?_
  rintro e w2 ⟨rfl, hb2⟩
  have hkc2 := hkc1.step hb2
  have hA2 := Lib.hid ((hA1.out.below hb2).mono hb2.size)
  clear hA1
  go_wp2
  go_ret
  exact ⟨rfl, hkc2.below⟩

set_option maxHeartbeats 8000000 in
set_option maxRecDepth 100000 in
theorem set_long_u (aoA : Option Addr) (caA : Nat) (A : List Fld) (n v u : List UInt8) (w : World) (hG : Good w) (hA0 : Hid (Flds w.heap.size w (.slice aoA A.length caA) A))
    (cFA : ∀ w1 : World, Flds w1.heap.size w1 (.slice aoA A.length caA) A → Calls Tryd.prog 11 #[.slice aoA A.length caA] w1 fun e w' => e = .returned (.bool true) ∧ Below w1.heap.size w1 w') (h_n : n.length ≤ 300) (h_v : v.length ≤ 300) (h_u : 300 < u.length) :
    Calls Tryd.prog 4 #[.slice aoA A.length caA, .string ⟨n.toArray⟩, .string ⟨v.toArray⟩, .string ⟨u.toArray⟩] w fun e w' => e = .returned (.bool true) ∧ Below w.heap.size w w' := by
  have d_n : decide ((300 : Int) < (n.length : Int)) = false := decide_eq_false (by omega)
  have e_n : decide (300 < n.length) = false := decide_eq_false (by omega)
  have d_v : decide ((300 : Int) < (v.length : Int)) = false := decide_eq_false (by omega)
  have e_v : decide (300 < v.length) = false := decide_eq_false (by omega)
  have d_u : decide ((300 : Int) < (u.length : Int)) = true := decide_eq_true (by omega)
  have e_u : decide (300 < u.length) = true := decide_eq_true (by omega)
  clear h_n
  clear h_v
  clear h_u
  have hk0 := Ok.refl hG
  go_enter Tryd.func4, Tryd.ntmps4
  go_wp2_with fail
  refine (awake13 w hk0.good).mono ?_
  rintro e w1 ⟨rfl, hb1⟩
  have hkc1 := hk0.step hb1
  have hA1 := Lib.hid ((hA0.out.below hb1).mono hb1.size)
  clear hA0
  go_wp2_with fail
  refine (cFA w1 hA1.out).mono ?_
  rintro e w2 ⟨rfl, hb2⟩
  have hkc2 := hkc1.step hb2
  have hA2 := Lib.hid ((hA1.out.below hb2).mono hb2.size)
  clear hA1
  go_wp2
  go_ret
  exact ⟨rfl, hkc2.below⟩

set_option maxHeartbeats 8000000 in
set_option maxRecDepth 100000 in
theorem drop_few (aoA : Option Addr) (caA : Nat) (A : List Fld) (n v u : List UInt8) (w : World) (hG : Good w) (hA0 : Hid (Flds w.heap.size w (.slice aoA A.length caA) A))
    (cFA : ∀ w1 : World, Flds w1.heap.size w1 (.slice aoA A.length caA) A → Calls Tryd.prog 11 #[.slice aoA A.length caA] w1 fun e w' => e = .returned (.bool false) ∧ Below w1.heap.size w1 w') :
    Calls Tryd.prog 5 #[.slice aoA A.length caA, .string ⟨n.toArray⟩, .string ⟨v.toArray⟩, .string ⟨u.toArray⟩] w fun e w' => e = .returned (.bool true) ∧ Below w.heap.size w w' := by
  have hk0 := Ok.refl hG
  go_enter Tryd.func5, Tryd.ntmps5
  go_wp2_with fail
  refine (awake13 w hk0.good).mono ?_
  rintro e w1 ⟨rfl, hb1⟩
  have hkc1 := hk0.step hb1
  have hA1 := Lib.hid ((hA0.out.below hb1).mono hb1.size)
  clear hA0
  go_wp2_with fail
  refine (cFA w1 hA1.out).mono ?_
  rintro e w2 ⟨rfl, hb2⟩
  have hkc2 := hkc1.step hb2
  have hA2 := Lib.hid ((hA1.out.below hb2).mono hb2.size)
  clear hA1
  go_wp2
  go_ret
  exact ⟨rfl, hkc2.below⟩

set_option maxHeartbeats 8000000 in
set_option maxRecDepth 100000 in
theorem drop_long_n (aoA : Option Addr) (caA : Nat) (A : List Fld) (n v u : List UInt8) (w : World) (hG : Good w) (hA0 : Hid (Flds w.heap.size w (.slice aoA A.length caA) A))
    (cFA : ∀ w1 : World, Flds w1.heap.size w1 (.slice aoA A.length caA) A → Calls Tryd.prog 11 #[.slice aoA A.length caA] w1 fun e w' => e = .returned (.bool true) ∧ Below w1.heap.size w1 w') (h_n : 300 < n.length) :
    Calls Tryd.prog 5 #[.slice aoA A.length caA, .string ⟨n.toArray⟩, .string ⟨v.toArray⟩, .string ⟨u.toArray⟩] w fun e w' => e = .returned (.bool true) ∧ Below w.heap.size w w' := by
  have d_n : decide ((300 : Int) < (n.length : Int)) = true := decide_eq_true (by omega)
  have e_n : decide (300 < n.length) = true := decide_eq_true (by omega)
  clear h_n
  have hk0 := Ok.refl hG
  go_enter Tryd.func5, Tryd.ntmps5
  go_wp2_with fail
  refine (awake13 w hk0.good).mono ?_
  rintro e w1 ⟨rfl, hb1⟩
  have hkc1 := hk0.step hb1
  have hA1 := Lib.hid ((hA0.out.below hb1).mono hb1.size)
  clear hA0
  go_wp2_with fail
  refine (cFA w1 hA1.out).mono ?_
  rintro e w2 ⟨rfl, hb2⟩
  have hkc2 := hkc1.step hb2
  have hA2 := Lib.hid ((hA1.out.below hb2).mono hb2.size)
  clear hA1
  go_wp2
  go_ret
  exact ⟨rfl, hkc2.below⟩

set_option maxHeartbeats 8000000 in
set_option maxRecDepth 100000 in
theorem drop_long_v (aoA : Option Addr) (caA : Nat) (A : List Fld) (n v u : List UInt8) (w : World) (hG : Good w) (hA0 : Hid (Flds w.heap.size w (.slice aoA A.length caA) A))
    (cFA : ∀ w1 : World, Flds w1.heap.size w1 (.slice aoA A.length caA) A → Calls Tryd.prog 11 #[.slice aoA A.length caA] w1 fun e w' => e = .returned (.bool true) ∧ Below w1.heap.size w1 w') (h_n : n.length ≤ 300) (h_v : 300 < v.length) :
    Calls Tryd.prog 5 #[.slice aoA A.length caA, .string ⟨n.toArray⟩, .string ⟨v.toArray⟩, .string ⟨u.toArray⟩] w fun e w' => e = .returned (.bool true) ∧ Below w.heap.size w w' := by
  have d_n : decide ((300 : Int) < (n.length : Int)) = false := decide_eq_false (by omega)
  have e_n : decide (300 < n.length) = false := decide_eq_false (by omega)
  have d_v : decide ((300 : Int) < (v.length : Int)) = true := decide_eq_true (by omega)
  have e_v : decide (300 < v.length) = true := decide_eq_true (by omega)
  clear h_n
  clear h_v
  have hk0 := Ok.refl hG
  go_enter Tryd.func5, Tryd.ntmps5
  go_wp2_with fail
  refine (awake13 w hk0.good).mono ?_
  rintro e w1 ⟨rfl, hb1⟩
  have hkc1 := hk0.step hb1
  have hA1 := Lib.hid ((hA0.out.below hb1).mono hb1.size)
  clear hA0
  go_wp2_with fail
  refine (cFA w1 hA1.out).mono ?_
  rintro e w2 ⟨rfl, hb2⟩
  have hkc2 := hkc1.step hb2
  have hA2 := Lib.hid ((hA1.out.below hb2).mono hb2.size)
  clear hA1
  go_wp2
  go_ret
  exact ⟨rfl, hkc2.below⟩

set_option maxHeartbeats 8000000 in
set_option maxRecDepth 100000 in
theorem drop_long_u (aoA : Option Addr) (caA : Nat) (A : List Fld) (n v u : List UInt8) (w : World) (hG : Good w) (hA0 : Hid (Flds w.heap.size w (.slice aoA A.length caA) A))
    (cFA : ∀ w1 : World, Flds w1.heap.size w1 (.slice aoA A.length caA) A → Calls Tryd.prog 11 #[.slice aoA A.length caA] w1 fun e w' => e = .returned (.bool true) ∧ Below w1.heap.size w1 w') (h_n : n.length ≤ 300) (h_v : v.length ≤ 300) (h_u : 300 < u.length) :
    Calls Tryd.prog 5 #[.slice aoA A.length caA, .string ⟨n.toArray⟩, .string ⟨v.toArray⟩, .string ⟨u.toArray⟩] w fun e w' => e = .returned (.bool true) ∧ Below w.heap.size w w' := by
  have d_n : decide ((300 : Int) < (n.length : Int)) = false := decide_eq_false (by omega)
  have e_n : decide (300 < n.length) = false := decide_eq_false (by omega)
  have d_v : decide ((300 : Int) < (v.length : Int)) = false := decide_eq_false (by omega)
  have e_v : decide (300 < v.length) = false := decide_eq_false (by omega)
  have d_u : decide ((300 : Int) < (u.length : Int)) = true := decide_eq_true (by omega)
  have e_u : decide (300 < u.length) = true := decide_eq_true (by omega)
  clear h_n
  clear h_v
  clear h_u
  have hk0 := Ok.refl hG
  go_enter Tryd.func5, Tryd.ntmps5
  go_wp2_with fail
  refine (awake13 w hk0.good).mono ?_
  rintro e w1 ⟨rfl, hb1⟩
  have hkc1 := hk0.step hb1
  have hA1 := Lib.hid ((hA0.out.below hb1).mono hb1.size)
  clear hA0
  go_wp2_with fail
  refine (cFA w1 hA1.out).mono ?_
  rintro e w2 ⟨rfl, hb2⟩
  have hkc2 := hkc1.step hb2
  have hA2 := Lib.hid ((hA1.out.below hb2).mono hb2.size)
  clear hA1
  go_wp2
  go_ret
  exact ⟨rfl, hkc2.below⟩

set_option maxHeartbeats 8000000 in
set_option maxRecDepth 100000 in
theorem set_same (aoA : Option Addr) (caA : Nat) (A : List Fld) (n v u : List UInt8) (w : World) (hG : Good w) (hA0 : Hid (Flds w.heap.size w (.slice aoA A.length caA) A))
    (cFA : ∀ w1 : World, Flds w1.heap.size w1 (.slice aoA A.length caA) A → Calls Tryd.prog 11 #[.slice aoA A.length caA] w1 fun e w' => e = .returned (.bool true) ∧ Below w1.heap.size w1 w') (sA : SmF 60 A) (h_n : n.length ≤ 300) (h_v : v.length ≤ 300) (h_u : u.length ≤ 300) (hs : sameN n u = true) :
    Calls Tryd.prog 4 #[.slice aoA A.length caA, .string ⟨n.toArray⟩, .string ⟨v.toArray⟩, .string ⟨u.toArray⟩] w fun e w' => e = .returned (.bool true) ∧ Below w.heap.size w w' := by
  have sX := setL_sm sA h_n h_v
  have lX := set_len n v A
  have cSet := fun w1 hA => c_Set (w := w1) sA (by decide) (ao := aoA) (cap := caA) hA (n := n) (v := v) (by omega)
  have cLow := fun w1 => c_Lower n (by omega) w1
  have cGet := fun ao ca w1 hX => c_Get (w := w1) sX (by decide) (ao := ao) (cap := ca) hX (n := lowL n) (by unfold lowL; rw [List.length_map]; omega)
  rw [show getL (lowL n) (setL n v A) = v from by rw [getL_low]; unfold getL; rw [set_all]; exact inter_one _ _, allL_low, set_all] at cGet
  have cAllX := fun ao ca w1 hX => c_All (w := w1) sX (by decide) (ao := ao) (cap := ca) hX (n := u) (by omega)
  have cAllA := fun w1 hA => c_All (w := w1) sA (by decide) (ao := aoA) (cap := caA) hA (n := u) (by omega)
  have cR := fun ao ca bo cb w1 hP hQ => ref08_Same (.slice ao (allL u (setL n v A)).length ca) (.slice bo (allL u A).length cb) (allL u (setL n v A)) (allL u A) (Nat.le_trans (allL_few sX u) (by decide)) (Nat.le_trans (allL_few sA u) (by decide)) w1 hP hQ
  have cSet2 := fun ao ca w1 hX => c_Set (w := w1) sX (by decide) (ao := ao) (cap := ca) hX (n := n) (v := v) (by omega)
  rw [set_again] at cSet2
  have cSame := fun ao ca bo cb w1 hY hX => c_Same (w := w1) sX (by decide) (ao := ao) (cap := ca) hY sX (by decide) (bo := bo) (bcap := cb) hX
  rw [beq_self_eq_true] at cSame
  have cDX := fun ao ca w1 hX bo cb hN => c_Drop (w := w1) sX (by decide) (ao := ao) (cap := ca) hX (names := [n]) (by simp) (fun x hx => by rw [List.mem_singleton.1 hx]; omega) (bo := bo) (bcap := cb) hN
  rw [set_without] at cDX
  have cDA := fun w1 hA bo cb hN => c_Drop (w := w1) sA (by decide) (ao := aoA) (cap := caA) hA (names := [n]) (by simp) (fun x hx => by rw [List.mem_singleton.1 hx]; omega) (bo := bo) (bcap := cb) hN
  have sD := dropL_sm sA [n]
  have cDD := fun ao ca bo cb w1 hD hE => c_Same (w := w1) sD (by decide) (ao := ao) (cap := ca) hD sD (by decide) (bo := bo) (bcap := cb) hE
  rw [beq_self_eq_true] at cDD
  have cNU := fun w1 => c_same n u (by omega) (by omega) w1
  rw [hs] at cNU
  have lD := sD.1
  clear sX sA sD hs
  generalize (allL u (setL n v A) == allL u A) = r at *
  generalize allL u (setL n v A) = T1 at *
  generalize setL n v A = X at *
  generalize dropL [n] A = D at *
  generalize allL u A = T2 at *
  have hw : IntKind.i64.wrap ((D.length : Int) + 1) = (D.length : Int) + 1 := by rw [IntKind.wrap_i64]; omega
  have hq : ((X.length : Int) == (D.length : Int) + 1) = true := by rw [lX]; exact beq_self_eq_true _
  clear lX
  generalize lowL n = ln at *
  have d_n : decide ((300 : Int) < (n.length : Int)) = false := decide_eq_false (by omega)
  have e_n : decide (300 < n.length) = false := decide_eq_false (by omega)
  have d_v : decide ((300 : Int) < (v.length : Int)) = false := decide_eq_false (by omega)
  have e_v : decide (300 < v.length) = false := decide_eq_false (by omega)
  have d_u : decide ((300 : Int) < (u.length : Int)) = false := decide_eq_false (by omega)
  have e_u : decide (300 < u.length) = false := decide_eq_false (by omega)
  clear h_n h_v h_u
  have hk0 := Ok.refl hG
  go_enter Tryd.func4, Tryd.ntmps4
  go_wp2_with fail
  refine (awake13 w hk0.good).mono ?_
  rintro e w1 ⟨rfl, hb1⟩
  have hkc1 := hk0.step hb1
  have hA1 := Lib.hid ((hA0.out.below hb1).mono hb1.size)
  clear hA0
  go_wp2_with fail
  refine (cFA w1 hA1.out).mono ?_
  rintro e w2 ⟨rfl, hb2⟩
  have hkc2 := hkc1.step hb2
  have hA2 := Lib.hid ((hA1.out.below hb2).mono hb2.size)
  clear hA1
  go_wp2_with fail
  refine (cSet w2 hA2.out).mono ?_
  rintro e w3 ⟨v3, rfl, ho3, hb3⟩
  have hkc3 := hkc2.step hb3
  have hA3 := Lib.hid ((hA2.out.below hb3).mono hb3.size)
  clear hA2
  have hXn := flds_here ho3
  obtain ⟨aoX, caX, rfl⟩ := hXn.shape
  have hX0 := Lib.hid hXn
  clear hXn ho3
  go_wp2_with fail
  refine (cLow w3).mono ?_
  rintro e w4 ⟨rfl, hb4⟩
  have hkc4 := hkc3.step hb4
  have hA4 := Lib.hid ((hA3.out.below hb4).mono hb4.size)
  clear hA3
  have hX5 := Lib.hid ((hX0.out.below hb4).mono hb4.size)
  clear hX0
  go_wp2_with fail
  refine (cGet _ _ w4 hX5.out).mono ?_
  rintro e w5 ⟨rfl, hb5⟩
  have hkc5 := hkc4.step hb5
  have hA6 := Lib.hid ((hA4.out.below hb5).mono hb5.size)
  clear hA4
  have hX7 := Lib.hid ((hX5.out.below hb5).mono hb5.size)
  clear hX5
  go_wp2_with fail
  refine (cAllX _ _ w5 hX7.out).mono ?_
  rintro e w6 ⟨v6, rfl, ho6, hb6⟩
  have hkc6 := hkc5.step hb6
  have hA8 := Lib.hid ((hA6.out.below hb6).mono hb6.size)
  clear hA6
  have hX9 := Lib.hid ((hX7.out.below hb6).mono hb6.size)
  clear hX7
  have hPn := (texts_own ho6 (Nat.le_refl _)).1
  obtain ⟨aoP, caP, rfl⟩ := hPn.shape
  have hP0 := Lib.hid hPn
  clear hPn ho6
  go_wp2_with fail
  refine (cAllA w6 hA8.out).mono ?_
  rintro e w7 ⟨v7, rfl, ho7, hb7⟩
  have hkc7 := hkc6.step hb7
  have hA10 := Lib.hid ((hA8.out.below hb7).mono hb7.size)
  clear hA8
  have hX11 := Lib.hid ((hX9.out.below hb7).mono hb7.size)
  clear hX9
  have hP12 := Lib.hid ((hP0.out.below hb7).mono hb7.size)
  clear hP0
  have hQn := (texts_own ho7 (Nat.le_refl _)).1
  obtain ⟨aoQ, caQ, rfl⟩ := hQn.shape
  have hQ0 := Lib.hid hQn
  clear hQn ho7
  go_wp2_with fail
  refine (cR _ _ _ _ w7 hP12.out hQ0.out).mono ?_
  rintro e w8 ⟨rfl, hb8⟩
  have hkc8 := hkc7.step hb8
  have hA13 := Lib.hid ((hA10.out.below hb8).mono hb8.size)
  clear hA10
  have hX14 := Lib.hid ((hX11.out.below hb8).mono hb8.size)
  clear hX11
  have hP15 := Lib.hid ((hP12.out.below hb8).mono hb8.size)
  clear hP12
  have hQ16 := Lib.hid ((hQ0.out.below hb8).mono hb8.size)
  clear hQ0
  clear hP15
  clear hQ16
  go_wp2_with fail
  refine (cSet2 _ _ w8 hX14.out).mono ?_
  rintro e w9 ⟨v9, rfl, ho9, hb9⟩
  have hkc9 := hkc8.step hb9
  have hA17 := Lib.hid ((hA13.out.below hb9).mono hb9.size)
  clear hA13
  have hX18 := Lib.hid ((hX14.out.below hb9).mono hb9.size)
  clear hX14
  have hYn := flds_here ho9
  obtain ⟨aoY, caY, rfl⟩ := hYn.shape
  have hY0 := Lib.hid hYn
  clear hYn ho9
  go_wp2_with fail
  refine (cSame _ _ _ _ w9 hY0.out hX18.out).mono ?_
  rintro e w10 ⟨rfl, hb10⟩
  have hkc10 := hkc9.step hb10
  have hA19 := Lib.hid ((hA17.out.below hb10).mono hb10.size)
  clear hA17
  have hX20 := Lib.hid ((hX18.out.below hb10).mono hb10.size)
  clear hX18
  have hY21 := Lib.hid ((hY0.out.below hb10).mono hb10.size)
  clear hY0
  clear hY21
  have hba22 : Below w10.heap.size w10 (w10.alloc (.cells #[.string ⟨(n).toArray⟩] 9)) := (Below.refl _ _).alloc (Nat.le_refl _) _
  have hka22 := hkc10.alloc (.cells #[.string ⟨(n).toArray⟩] 9)
  have hNz := Lib.hid (texts_new w10 [n] (cap := 1))
  have hA23 := Lib.hid ((hA19.out.below hba22).mono hba22.size)
  clear hA19
  have hX24 := Lib.hid ((hX20.out.below hba22).mono hba22.size)
  clear hX20
  go_wp2_with fail
  refine (cDX _ _ (w10.alloc (.cells #[.string ⟨(n).toArray⟩] 9)) hX24.out _ _ hNz.out).mono ?_
  rintro e w11 ⟨v11, rfl, ho11, hb11⟩
  have hkc11 := hka22.step hb11
  have hA25 := Lib.hid ((hA23.out.below hb11).mono hb11.size)
  clear hA23
  have hX26 := Lib.hid ((hX24.out.below hb11).mono hb11.size)
  clear hX24
  have hN27 := Lib.hid ((hNz.out.below hb11).mono hb11.size)
  clear hNz
  have hDn := flds_here ho11
  obtain ⟨aoD, caD, rfl⟩ := hDn.shape
  have hD0 := Lib.hid hDn
  clear hDn ho11
  clear hN27
  have hba28 : Below w11.heap.size w11 (w11.alloc (.cells #[.string ⟨(n).toArray⟩] 9)) := (Below.refl _ _).alloc (Nat.le_refl _) _
  have hka28 := hkc11.alloc (.cells #[.string ⟨(n).toArray⟩] 9)
  have hNz := Lib.hid (texts_new w11 [n] (cap := 1))
  have hA29 := Lib.hid ((hA25.out.below hba28).mono hba28.size)
  clear hA25
  have hX30 := Lib.hid ((hX26.out.below hba28).mono hba28.size)
  clear hX26
  have hD31 := Lib.hid ((hD0.out.below hba28).mono hba28.size)
  clear hD0
  go_wp2_with fail
  refine (cDA (w11.alloc (.cells #[.string ⟨(n).toArray⟩] 9)) hA29.out _ _ hNz.out).mono ?_
  rintro e w12 ⟨v12, rfl, ho12, hb12⟩
  have hkc12 := hka28.step hb12
  have hA32 := Lib.hid ((hA29.out.below hb12).mono hb12.size)
  clear hA29
  have hX33 := Lib.hid ((hX30.out.below hb12).mono hb12.size)
  clear hX30
  have hD34 := Lib.hid ((hD31.out.below hb12).mono hb12.size)
  clear hD31
  have hN35 := Lib.hid ((hNz.out.below hb12).mono hb12.size)
  clear hNz
  have hEn := flds_here ho12
  obtain ⟨aoE, caE, rfl⟩ := hEn.shape
  have hE0 := Lib.hid hEn
  clear hEn ho12
  clear hN35
  go_wp2_with fail
  refine (cDD _ _ _ _ w12 hD34.out hE0.out).mono ?_
  rintro e w13 ⟨rfl, hb13⟩
  have hkc13 := hkc12.step hb13
  have hA36 := Lib.hid ((hA32.out.below hb13).mono hb13.size)
  clear hA32
  have hX37 := Lib.hid ((hX33.out.below hb13).mono hb13.size)
  clear hX33
  have hD38 := Lib.hid ((hD34.out.below hb13).mono hb13.size)
  clear hD34
  have hE39 := Lib.hid ((hE0.out.below hb13).mono hb13.size)
  clear hE0
  clear hD38
  clear hE39
  go_wp2_with fail
  refine (cNU w13).mono ?_
  rintro e w14 ⟨rfl, hb14⟩
  have hkc14 := hkc13.step hb14
  have hA40 := Lib.hid ((hA36.out.below hb14).mono hb14.size)
  clear hA36
  have hX41 := Lib.hid ((hX37.out.below hb14).mono hb14.size)
  clear hX37
  have hba42 : Below w14.heap.size w14 (w14.alloc (.cells #[.string ⟨(n).toArray⟩] 9)) := (Below.refl _ _).alloc (Nat.le_refl _) _
  have hka42 := hkc14.alloc (.cells #[.string ⟨(n).toArray⟩] 9)
  have hNz := Lib.hid (texts_new w14 [n] (cap := 1))
  have hA43 := Lib.hid ((hA40.out.below hba42).mono hba42.size)
  clear hA40
  have hX44 := Lib.hid ((hX41.out.below hba42).mono hba42.size)
  clear hX41
  go_wp2_with fail
  refine (cDA (w14.alloc (.cells #[.string ⟨(n).toArray⟩] 9)) hA43.out _ _ hNz.out).mono ?_
  rintro e w15 ⟨v15, rfl, ho15, hb15⟩
  have hkc15 := hka42.step hb15
  have hA45 := Lib.hid ((hA43.out.below hb15).mono hb15.size)
  clear hA43
  have hX46 := Lib.hid ((hX44.out.below hb15).mono hb15.size)
  clear hX44
  have hN47 := Lib.hid ((hNz.out.below hb15).mono hb15.size)
  clear hNz
  have hEn := flds_here ho15
  obtain ⟨aoE, caE, rfl⟩ := hEn.shape
  have hE0 := Lib.hid hEn
  clear hEn ho15
  clear hN47
  go_wp2
  go_ret
  exact ⟨rfl, hkc15.below⟩

set_option maxHeartbeats 8000000 in
set_option maxRecDepth 100000 in
theorem set_other (aoA : Option Addr) (caA : Nat) (A : List Fld) (n v u : List UInt8) (w : World) (hG : Good w) (hA0 : Hid (Flds w.heap.size w (.slice aoA A.length caA) A))
    (cFA : ∀ w1 : World, Flds w1.heap.size w1 (.slice aoA A.length caA) A → Calls Tryd.prog 11 #[.slice aoA A.length caA] w1 fun e w' => e = .returned (.bool true) ∧ Below w1.heap.size w1 w') (sA : SmF 60 A) (h_n : n.length ≤ 300) (h_v : v.length ≤ 300) (h_u : u.length ≤ 300) (hs : sameN n u = false) :
    Calls Tryd.prog 4 #[.slice aoA A.length caA, .string ⟨n.toArray⟩, .string ⟨v.toArray⟩, .string ⟨u.toArray⟩] w fun e w' => e = .returned (.bool true) ∧ Below w.heap.size w w' := by
  have sX := setL_sm sA h_n h_v
  have lX := set_len n v A
  have cSet := fun w1 hA => c_Set (w := w1) sA (by decide) (ao := aoA) (cap := caA) hA (n := n) (v := v) (by omega)
  have cLow := fun w1 => c_Lower n (by omega) w1
  have cGet := fun ao ca w1 hX => c_Get (w := w1) sX (by decide) (ao := ao) (cap := ca) hX (n := lowL n) (by unfold lowL; rw [List.length_map]; omega)
  rw [show getL (lowL n) (setL n v A) = v from by rw [getL_low]; unfold getL; rw [set_all]; exact inter_one _ _, allL_low, set_all] at cGet
  have cAllX := fun ao ca w1 hX => c_All (w := w1) sX (by decide) (ao := ao) (cap := ca) hX (n := u) (by omega)
  have cAllA := fun w1 hA => c_All (w := w1) sA (by decide) (ao := aoA) (cap := caA) hA (n := u) (by omega)
  have cR := fun ao ca bo cb w1 hP hQ => ref08_Same (.slice ao (allL u (setL n v A)).length ca) (.slice bo (allL u A).length cb) (allL u (setL n v A)) (allL u A) (Nat.le_trans (allL_few sX u) (by decide)) (Nat.le_trans (allL_few sA u) (by decide)) w1 hP hQ
  have cSet2 := fun ao ca w1 hX => c_Set (w := w1) sX (by decide) (ao := ao) (cap := ca) hX (n := n) (v := v) (by omega)
  rw [set_again] at cSet2
  have cSame := fun ao ca bo cb w1 hY hX => c_Same (w := w1) sX (by decide) (ao := ao) (cap := ca) hY sX (by decide) (bo := bo) (bcap := cb) hX
  rw [beq_self_eq_true] at cSame
  have cDX := fun ao ca w1 hX bo cb hN => c_Drop (w := w1) sX (by decide) (ao := ao) (cap := ca) hX (names := [n]) (by simp) (fun x hx => by rw [List.mem_singleton.1 hx]; omega) (bo := bo) (bcap := cb) hN
  rw [set_without] at cDX
  have cDA := fun w1 hA bo cb hN => c_Drop (w := w1) sA (by decide) (ao := aoA) (cap := caA) hA (names := [n]) (by simp) (fun x hx => by rw [List.mem_singleton.1 hx]; omega) (bo := bo) (bcap := cb) hN
  have sD := dropL_sm sA [n]
  have cDD := fun ao ca bo cb w1 hD hE => c_Same (w := w1) sD (by decide) (ao := ao) (cap := ca) hD sD (by decide) (bo := bo) (bcap := cb) hE
  rw [beq_self_eq_true] at cDD
  have cNU := fun w1 => c_same n u (by omega) (by omega) w1
  rw [hs] at cNU
  rw [set_rest v hs, beq_self_eq_true] at cR
  rw [set_rest v hs] at cAllX
  have lD := sD.1
  clear sX sA sD hs
  generalize setL n v A = X at *
  generalize dropL [n] A = D at *
  generalize allL u A = T2 at *
  have hw : IntKind.i64.wrap ((D.length : Int) + 1) = (D.length : Int) + 1 := by rw [IntKind.wrap_i64]; omega
  have hq : ((X.length : Int) == (D.length : Int) + 1) = true := by rw [lX]; exact beq_self_eq_true _
  clear lX
  generalize lowL n = ln at *
  have d_n : decide ((300 : Int) < (n.length : Int)) = false := decide_eq_false (by omega)
  have e_n : decide (300 < n.length) = false := decide_eq_false (by omega)
  have d_v : decide ((300 : Int) < (v.length : Int)) = false := decide_eq_false (by omega)
  have e_v : decide (300 < v.length) = false := decide_eq_false (by omega)
  have d_u : decide ((300 : Int) < (u.length : Int)) = false := decide_eq_false (by omega)
  have e_u : decide (300 < u.length) = false := decide_eq_false (by omega)
  clear h_n h_v h_u
  have hk0 := Ok.refl hG
  go_enter Tryd.func4, Tryd.ntmps4
  go_wp2_with fail
  refine (awake13 w hk0.good).mono ?_
  rintro e w1 ⟨rfl, hb1⟩
  have hkc1 := hk0.step hb1
  have hA1 := Lib.hid ((hA0.out.below hb1).mono hb1.size)
  clear hA0
  go_wp2_with fail
  refine (cFA w1 hA1.out).mono ?_
  rintro e w2 ⟨rfl, hb2⟩
  have hkc2 := hkc1.step hb2
  have hA2 := Lib.hid ((hA1.out.below hb2).mono hb2.size)
  clear hA1
  go_wp2_with fail
  refine (cSet w2 hA2.out).mono ?_
  rintro e w3 ⟨v3, rfl, ho3, hb3⟩
  have hkc3 := hkc2.step hb3
  have hA3 := Lib.hid ((hA2.out.below hb3).mono hb3.size)
  clear hA2
  have hXn := flds_here ho3
  obtain ⟨aoX, caX, rfl⟩ := hXn.shape
  have hX0 := Lib.hid hXn
  clear hXn ho3
  go_wp2_with fail
  refine (cLow w3).mono ?_
  rintro e w4 ⟨rfl, hb4⟩
  have hkc4 := hkc3.step hb4
  have hA4 := Lib.hid ((hA3.out.below hb4).mono hb4.size)
  clear hA3
  have hX5 := Lib.hid ((hX0.out.below hb4).mono hb4.size)
  clear hX0
  go_wp2_with fail
  refine (cGet _ _ w4 hX5.out).mono ?_
  rintro e w5 ⟨rfl, hb5⟩
  have hkc5 := hkc4.step hb5
  have hA6 := Lib.hid ((hA4.out.below hb5).mono hb5.size)
  clear hA4
  have hX7 := Lib.hid ((hX5.out.below hb5).mono hb5.size)
  clear hX5
  go_wp2_with fail
  refine (cAllX _ _ w5 hX7.out).mono ?_
  rintro e w6 ⟨v6, rfl, ho6, hb6⟩
  have hkc6 := hkc5.step hb6
  have hA8 := Lib.hid ((hA6.out.below hb6).mono hb6.size)
  clear hA6
  have hX9 := Lib.hid ((hX7.out.below hb6).mono hb6.size)
  clear hX7
  have hPn := (texts_own ho6 (Nat.le_refl _)).1
  obtain ⟨aoP, caP, rfl⟩ := hPn.shape
  have hP0 := Lib.hid hPn
  clear hPn ho6
  go_wp2_with fail
  refine (cAllA w6 hA8.out).mono ?_
  rintro e w7 ⟨v7, rfl, ho7, hb7⟩
  have hkc7 := hkc6.step hb7
  have hA10 := Lib.hid ((hA8.out.below hb7).mono hb7.size)
  clear hA8
  have hX11 := Lib.hid ((hX9.out.below hb7).mono hb7.size)
  clear hX9
  have hP12 := Lib.hid ((hP0.out.below hb7).mono hb7.size)
  clear hP0
  have hQn := (texts_own ho7 (Nat.le_refl _)).1
  obtain ⟨aoQ, caQ, rfl⟩ := hQn.shape
  have hQ0 := Lib.hid hQn
  clear hQn ho7
  go_wp2_with fail
  refine (cR _ _ _ _ w7 hP12.out hQ0.out).mono ?_
  rintro e w8 ⟨rfl, hb8⟩
  have hkc8 := hkc7.step hb8
  have hA13 := Lib.hid ((hA10.out.below hb8).mono hb8.size)
  clear hA10
  have hX14 := Lib.hid ((hX11.out.below hb8).mono hb8.size)
  clear hX11
  have hP15 := Lib.hid ((hP12.out.below hb8).mono hb8.size)
  clear hP12
  have hQ16 := Lib.hid ((hQ0.out.below hb8).mono hb8.size)
  clear hQ0
  clear hP15
  clear hQ16
  go_wp2_with fail
  refine (cSet2 _ _ w8 hX14.out).mono ?_
  rintro e w9 ⟨v9, rfl, ho9, hb9⟩
  have hkc9 := hkc8.step hb9
  have hA17 := Lib.hid ((hA13.out.below hb9).mono hb9.size)
  clear hA13
  have hX18 := Lib.hid ((hX14.out.below hb9).mono hb9.size)
  clear hX14
  have hYn := flds_here ho9
  obtain ⟨aoY, caY, rfl⟩ := hYn.shape
  have hY0 := Lib.hid hYn
  clear hYn ho9
  go_wp2_with fail
  refine (cSame _ _ _ _ w9 hY0.out hX18.out).mono ?_
  rintro e w10 ⟨rfl, hb10⟩
  have hkc10 := hkc9.step hb10
  have hA19 := Lib.hid ((hA17.out.below hb10).mono hb10.size)
  clear hA17
  have hX20 := Lib.hid ((hX18.out.below hb10).mono hb10.size)
  clear hX18
  have hY21 := Lib.hid ((hY0.out.below hb10).mono hb10.size)
  clear hY0
  clear hY21
  have hba22 : Below w10.heap.size w10 (w10.alloc (.cells #[.string ⟨(n).toArray⟩] 9)) := (Below.refl _ _).alloc (Nat.le_refl _) _
  have hka22 := hkc10.alloc (.cells #[.string ⟨(n).toArray⟩] 9)
  have hNz := Lib.hid (texts_new w10 [n] (cap := 1))
  have hA23 := Lib.hid ((hA19.out.below hba22).mono hba22.size)
  clear hA19
  have hX24 := Lib.hid ((hX20.out.below hba22).mono hba22.size)
  clear hX20
  go_wp2_with fail
  refine (cDX _ _ (w10.alloc (.cells #[.string ⟨(n).toArray⟩] 9)) hX24.out _ _ hNz.out).mono ?_
  rintro e w11 ⟨v11, rfl, ho11, hb11⟩
  have hkc11 := hka22.step hb11
  have hA25 := Lib.hid ((hA23.out.below hb11).mono hb11.size)
  clear hA23
  have hX26 := Lib.hid ((hX24.out.below hb11).mono hb11.size)
  clear hX24
  have hN27 := Lib.hid ((hNz.out.below hb11).mono hb11.size)
  clear hNz
  have hDn := flds_here ho11
  obtain ⟨aoD, caD, rfl⟩ := hDn.shape
  have hD0 := Lib.hid hDn
  clear hDn ho11
  clear hN27
  have hba28 : Below w11.heap.size w11 (w11.alloc (.cells #[.string ⟨(n).toArray⟩] 9)) := (Below.refl _ _).alloc (Nat.le_refl _) _
  have hka28 := hkc11.alloc (.cells #[.string ⟨(n).toArray⟩] 9)
  have hNz := Lib.hid (texts_new w11 [n] (cap := 1))
  have hA29 := Lib.hid ((hA25.out.below hba28).mono hba28.size)
  clear hA25
  have hX30 := Lib.hid ((hX26.out.below hba28).mono hba28.size)
  clear hX26
  have hD31 := Lib.hid ((hD0.out.below hba28).mono hba28.size)
  clear hD0
  go_wp2_with fail
  refine (cDA (w11.alloc (.cells #[.string ⟨(n).toArray⟩] 9)) hA29.out _ _ hNz.out).mono ?_
  rintro e w12 ⟨v12, rfl, ho12, hb12⟩
  have hkc12 := hka28.step hb12
  have hA32 := Lib.hid ((hA29.out.below hb12).mono hb12.size)
  clear hA29
  have hX33 := Lib.hid ((hX30.out.below hb12).mono hb12.size)
  clear hX30
  have hD34 := Lib.hid ((hD31.out.below hb12).mono hb12.size)
  clear hD31
  have hN35 := Lib.hid ((hNz.out.below hb12).mono hb12.size)
  clear hNz
  have hEn := flds_here ho12
  obtain ⟨aoE, caE, rfl⟩ := hEn.shape
  have hE0 := Lib.hid hEn
  clear hEn ho12
  clear hN35
  go_wp2_with fail
  refine (cDD _ _ _ _ w12 hD34.out hE0.out).mono ?_
  rintro e w13 ⟨rfl, hb13⟩
  have hkc13 := hkc12.step hb13
  have hA36 := Lib.hid ((hA32.out.below hb13).mono hb13.size)
  clear hA32
  have hX37 := Lib.hid ((hX33.out.below hb13).mono hb13.size)
  clear hX33
  have hD38 := Lib.hid ((hD34.out.below hb13).mono hb13.size)
  clear hD34
  have hE39 := Lib.hid ((hE0.out.below hb13).mono hb13.size)
  clear hE0
  clear hD38
  clear hE39
  go_wp2_with fail
  refine (cNU w13).mono ?_
  rintro e w14 ⟨rfl, hb14⟩
  have hkc14 := hkc13.step hb14
  have hA40 := Lib.hid ((hA36.out.below hb14).mono hb14.size)
  clear hA36
  have hX41 := Lib.hid ((hX37.out.below hb14).mono hb14.size)
  clear hX37
  have hba42 : Below w14.heap.size w14 (w14.alloc (.cells #[.string ⟨(n).toArray⟩] 9)) := (Below.refl _ _).alloc (Nat.le_refl _) _
  have hka42 := hkc14.alloc (.cells #[.string ⟨(n).toArray⟩] 9)
  have hNz := Lib.hid (texts_new w14 [n] (cap := 1))
  have hA43 := Lib.hid ((hA40.out.below hba42).mono hba42.size)
  clear hA40
  have hX44 := Lib.hid ((hX41.out.below hba42).mono hba42.size)
  clear hX41
  go_wp2_with fail
  refine (cDA (w14.alloc (.cells #[.string ⟨(n).toArray⟩] 9)) hA43.out _ _ hNz.out).mono ?_
  rintro e w15 ⟨v15, rfl, ho15, hb15⟩
  have hkc15 := hka42.step hb15
  have hA45 := Lib.hid ((hA43.out.below hb15).mono hb15.size)
  clear hA43
  have hX46 := Lib.hid ((hX44.out.below hb15).mono hb15.size)
  clear hX44
  have hN47 := Lib.hid ((hNz.out.below hb15).mono hb15.size)
  clear hNz
  have hEn := flds_here ho15
  obtain ⟨aoE, caE, rfl⟩ := hEn.shape
  have hE0 := Lib.hid hEn
  clear hEn ho15
  clear hN47
  go_wp2
  go_ret
  exact ⟨rfl, hkc15.below⟩

set_option maxHeartbeats 8000000 in
set_option maxRecDepth 100000 in
theorem drop_one (aoA : Option Addr) (caA : Nat) (A : List Fld) (n v u : List UInt8) (w : World) (hG : Good w) (hA0 : Hid (Flds w.heap.size w (.slice aoA A.length caA) A))
    (cFA : ∀ w1 : World, Flds w1.heap.size w1 (.slice aoA A.length caA) A → Calls Tryd.prog 11 #[.slice aoA A.length caA] w1 fun e w' => e = .returned (.bool true) ∧ Below w1.heap.size w1 w') (sA : SmF 60 A) (h_n : n.length ≤ 300) (h_v : v.length ≤ 300) (h_u : u.length ≤ 300) (hs : sameN u n = true) :
    Calls Tryd.prog 5 #[.slice aoA A.length caA, .string ⟨n.toArray⟩, .string ⟨v.toArray⟩, .string ⟨u.toArray⟩] w fun e w' => e = .returned (.bool true) ∧ Below w.heap.size w w' := by
  have hall2 : ∀ x ∈ [n, v], x.length ≤ 1000000 := fun x hx => by
    rcases List.mem_cons.1 hx with rfl | hx
    · omega
    · obtain rfl : x = v := by simpa using hx
      omega
  have sX := dropL_sm sA [n, v]
  have sV := dropL_sm sA [v]
  have lX := dropL_len [n, v] A
  have cD := fun w1 hA bo cb hN => c_Drop (w := w1) sA (by decide) (ao := aoA) (cap := caA) hA (names := [n, v]) (by simp) hall2 (bo := bo) (bcap := cb) hN
  have cG1 := fun ao ca w1 hX => c_Get (w := w1) sX (by decide) (ao := ao) (cap := ca) hX (n := n) (by omega)
  have cG2 := fun ao ca w1 hX => c_Get (w := w1) sX (by decide) (ao := ao) (cap := ca) hX (n := v) (by omega)
  rw [drop_gone (N := [n, v]) (n := n) (by simp)] at cG1
  rw [drop_gone (N := [n, v]) (n := v) (by simp)] at cG2
  have cAllX := fun ao ca w1 hX => c_All (w := w1) sX (by decide) (ao := ao) (cap := ca) hX (n := u) (by omega)
  have cAllA := fun w1 hA => c_All (w := w1) sA (by decide) (ao := aoA) (cap := caA) hA (n := u) (by omega)
  have cR := fun ao ca bo cb w1 hP hQ => ref08_Same (.slice ao (allL u (dropL [n, v] A)).length ca) (.slice bo (allL u A).length cb) (allL u (dropL [n, v] A)) (allL u A) (Nat.le_trans (allL_few sX u) (by decide)) (Nat.le_trans (allL_few sA u) (by decide)) w1 hP hQ
  have cUN := fun w1 => c_same u n (by omega) (by omega) w1
  have cUV := fun w1 => c_same u v (by omega) (by omega) w1
  rw [hs] at cUN
  have cDV := fun w1 hA bo cb hN => c_Drop (w := w1) sA (by decide) (ao := aoA) (cap := caA) hA (names := [v]) (by simp) (fun x hx => by rw [List.mem_singleton.1 hx]; omega) (bo := bo) (bcap := cb) hN
  have cDN := fun ao ca w1 hY bo cb hN => c_Drop (w := w1) sV (by decide) (ao := ao) (cap := ca) hY (names := [n]) (by simp) (fun x hx => by rw [List.mem_singleton.1 hx]; omega) (bo := bo) (bcap := cb) hN
  rw [dropL_two] at cDN
  have cS1 := fun ao ca bo cb w1 hZ hX => c_Same (w := w1) sX (by decide) (ao := ao) (cap := ca) hZ sX (by decide) (bo := bo) (bcap := cb) hX
  rw [beq_self_eq_true] at cS1
  have c0 := fun w1 hA => c_Drop (w := w1) sA (by decide) (ao := aoA) (cap := caA) hA (names := []) (by decide) (fun x hx => by cases hx) (bo := none) (bcap := 0) (.inl ⟨rfl, rfl⟩)
  rw [dropL_nil] at c0
  have cS2 := fun ao ca w1 hZ hA => c_Same (w := w1) sA (by decide) (ao := ao) (cap := ca) hZ sA (by decide) (bo := aoA) (bcap := caA) hA
  rw [beq_self_eq_true] at cS2
  clear sX sA sV hall2 hs
  generalize (allL u (dropL [n, v] A) == allL u A) = r at *
  generalize allL u (dropL [n, v] A) = T1 at *
  generalize dropL [n, v] A = X at *
  generalize dropL [v] A = Y at *
  generalize allL u A = T2 at *
  have hq : decide ((X.length : Int) ≤ (A.length : Int)) = true := decide_eq_true (by omega)
  have hqn : decide (X.length ≤ A.length) = true := decide_eq_true lX
  have d_n : decide ((300 : Int) < (n.length : Int)) = false := decide_eq_false (by omega)
  have e_n : decide (300 < n.length) = false := decide_eq_false (by omega)
  have d_v : decide ((300 : Int) < (v.length : Int)) = false := decide_eq_false (by omega)
  have e_v : decide (300 < v.length) = false := decide_eq_false (by omega)
  have d_u : decide ((300 : Int) < (u.length : Int)) = false := decide_eq_false (by omega)
  have e_u : decide (300 < u.length) = false := decide_eq_false (by omega)
  clear h_n h_v h_u
  have hk0 := Ok.refl hG
  go_enter Tryd.func5, Tryd.ntmps5
  go_wp2_with fail
  refine (awake13 w hk0.good).mono ?_
  rintro e w1 ⟨rfl, hb1⟩
  have hkc1 := hk0.step hb1
  have hA1 := Lib.hid ((hA0.out.below hb1).mono hb1.size)
  clear hA0
  go_wp2_with fail
  refine (cFA w1 hA1.out).mono ?_
  rintro e w2 ⟨rfl, hb2⟩
  have hkc2 := hkc1.step hb2
  have hA2 := Lib.hid ((hA1.out.below hb2).mono hb2.size)
  clear hA1
  have hba3 : Below w2.heap.size w2 (w2.alloc (.cells #[.string ⟨(n).toArray⟩, .string ⟨(v).toArray⟩] 9)) := (Below.refl _ _).alloc (Nat.le_refl _) _
  have hka3 := hkc2.alloc (.cells #[.string ⟨(n).toArray⟩, .string ⟨(v).toArray⟩] 9)
  have hNz := Lib.hid (texts_new w2 [n, v] (cap := 2))
  have hA4 := Lib.hid ((hA2.out.below hba3).mono hba3.size)
  clear hA2
  go_wp2_with fail
  refine (cD (w2.alloc (.cells #[.string ⟨(n).toArray⟩, .string ⟨(v).toArray⟩] 9)) hA4.out _ _ hNz.out).mono ?_
  rintro e w3 ⟨v3, rfl, ho3, hb3⟩
  have hkc3 := hka3.step hb3
  have hA5 := Lib.hid ((hA4.out.below hb3).mono hb3.size)
  clear hA4
  have hN6 := Lib.hid ((hNz.out.below hb3).mono hb3.size)
  clear hNz
  have hXn := flds_here ho3
  obtain ⟨aoX, caX, rfl⟩ := hXn.shape
  have hX0 := Lib.hid hXn
  clear hXn ho3
  clear hN6
  go_wp2_with fail
  refine (cG1 _ _ w3 hX0.out).mono ?_
  rintro e w4 ⟨rfl, hb4⟩
  have hkc4 := hkc3.step hb4
  have hA7 := Lib.hid ((hA5.out.below hb4).mono hb4.size)
  clear hA5
  have hX8 := Lib.hid ((hX0.out.below hb4).mono hb4.size)
  clear hX0
  go_wp2_with fail
  refine (cG2 _ _ w4 hX8.out).mono ?_
  rintro e w5 ⟨rfl, hb5⟩
  have hkc5 := hkc4.step hb5
  have hA9 := Lib.hid ((hA7.out.below hb5).mono hb5.size)
  clear hA7
  have hX10 := Lib.hid ((hX8.out.below hb5).mono hb5.size)
  clear hX8
  go_wp2_with fail
  refine (cAllX _ _ w5 hX10.out).mono ?_
  rintro e w6 ⟨v6, rfl, ho6, hb6⟩
  have hkc6 := hkc5.step hb6
  have hA11 := Lib.hid ((hA9.out.below hb6).mono hb6.size)
  clear hA9
  have hX12 := Lib.hid ((hX10.out.below hb6).mono hb6.size)
  clear hX10
  have hPn := (texts_own ho6 (Nat.le_refl _)).1
  obtain ⟨aoP, caP, rfl⟩ := hPn.shape
  have hP0 := Lib.hid hPn
  clear hPn ho6
  go_wp2_with fail
  refine (cAllA w6 hA11.out).mono ?_
  rintro e w7 ⟨v7, rfl, ho7, hb7⟩
  have hkc7 := hkc6.step hb7
  have hA13 := Lib.hid ((hA11.out.below hb7).mono hb7.size)
  clear hA11
  have hX14 := Lib.hid ((hX12.out.below hb7).mono hb7.size)
  clear hX12
  have hP15 := Lib.hid ((hP0.out.below hb7).mono hb7.size)
  clear hP0
  have hQn := (texts_own ho7 (Nat.le_refl _)).1
  obtain ⟨aoQ, caQ, rfl⟩ := hQn.shape
  have hQ0 := Lib.hid hQn
  clear hQn ho7
  go_wp2_with fail
  refine (cR _ _ _ _ w7 hP15.out hQ0.out).mono ?_
  rintro e w8 ⟨rfl, hb8⟩
  have hkc8 := hkc7.step hb8
  have hA16 := Lib.hid ((hA13.out.below hb8).mono hb8.size)
  clear hA13
  have hX17 := Lib.hid ((hX14.out.below hb8).mono hb8.size)
  clear hX14
  have hP18 := Lib.hid ((hP15.out.below hb8).mono hb8.size)
  clear hP15
  have hQ19 := Lib.hid ((hQ0.out.below hb8).mono hb8.size)
  clear hQ0
  clear hP18
  clear hQ19
  go_wp2_with fail
  refine (cUN w8).mono ?_
  rintro e w9 ⟨rfl, hb9⟩
  have hkc9 := hkc8.step hb9
  have hA20 := Lib.hid ((hA16.out.below hb9).mono hb9.size)
  clear hA16
  have hX21 := Lib.hid ((hX17.out.below hb9).mono hb9.size)
  clear hX17
  have hba22 : Below w9.heap.size w9 (w9.alloc (.cells #[.string ⟨(v).toArray⟩] 9)) := (Below.refl _ _).alloc (Nat.le_refl _) _
  have hka22 := hkc9.alloc (.cells #[.string ⟨(v).toArray⟩] 9)
  have hNz := Lib.hid (texts_new w9 [v] (cap := 1))
  have hA23 := Lib.hid ((hA20.out.below hba22).mono hba22.size)
  clear hA20
  have hX24 := Lib.hid ((hX21.out.below hba22).mono hba22.size)
  clear hX21
  go_wp2_with fail
  refine (cDV (w9.alloc (.cells #[.string ⟨(v).toArray⟩] 9)) hA23.out _ _ hNz.out).mono ?_
  rintro e w10 ⟨v10, rfl, ho10, hb10⟩
  have hkc10 := hka22.step hb10
  have hA25 := Lib.hid ((hA23.out.below hb10).mono hb10.size)
  clear hA23
  have hX26 := Lib.hid ((hX24.out.below hb10).mono hb10.size)
  clear hX24
  have hN27 := Lib.hid ((hNz.out.below hb10).mono hb10.size)
  clear hNz
  have hYn := flds_here ho10
  obtain ⟨aoY, caY, rfl⟩ := hYn.shape
  have hY0 := Lib.hid hYn
  clear hYn ho10
  clear hN27
  have hba28 : Below w10.heap.size w10 (w10.alloc (.cells #[.string ⟨(n).toArray⟩] 9)) := (Below.refl _ _).alloc (Nat.le_refl _) _
  have hka28 := hkc10.alloc (.cells #[.string ⟨(n).toArray⟩] 9)
  have hNz := Lib.hid (texts_new w10 [n] (cap := 1))
  have hA29 := Lib.hid ((hA25.out.below hba28).mono hba28.size)
  clear hA25
  have hX30 := Lib.hid ((hX26.out.below hba28).mono hba28.size)
  clear hX26
  have hY31 := Lib.hid ((hY0.out.below hba28).mono hba28.size)
  clear hY0
  go_wp2_with fail
  refine (cDN _ _ (w10.alloc (.cells #[.string ⟨(n).toArray⟩] 9)) hY31.out _ _ hNz.out).mono ?_
  rintro e w11 ⟨v11, rfl, ho11, hb11⟩
  have hkc11 := hka28.step hb11
  have hA32 := Lib.hid ((hA29.out.below hb11).mono hb11.size)
  clear hA29
  have hX33 := Lib.hid ((hX30.out.below hb11).mono hb11.size)
  clear hX30
  have hY34 := Lib.hid ((hY31.out.below hb11).mono hb11.size)
  clear hY31
  have hN35 := Lib.hid ((hNz.out.below hb11).mono hb11.size)
  clear hNz
  have hZn := flds_here ho11
  obtain ⟨aoZ, caZ, rfl⟩ := hZn.shape
  have hZ0 := Lib.hid hZn
  clear hZn ho11
  clear hN35
  clear hY34
  go_wp2_with fail
  refine (cS1 _ _ _ _ w11 hZ0.out hX33.out).mono ?_
  rintro e w12 ⟨rfl, hb12⟩
  have hkc12 := hkc11.step hb12
  have hA36 := Lib.hid ((hA32.out.below hb12).mono hb12.size)
  clear hA32
  have hX37 := Lib.hid ((hX33.out.below hb12).mono hb12.size)
  clear hX33
  have hZ38 := Lib.hid ((hZ0.out.below hb12).mono hb12.size)
  clear hZ0
  clear hZ38
  go_wp2_with fail
  refine (c0 w12 hA36.out).mono ?_
  rintro e w13 ⟨v13, rfl, ho13, hb13⟩
  have hkc13 := hkc12.step hb13
  have hA39 := Lib.hid ((hA36.out.below hb13).mono hb13.size)
  clear hA36
  have hX40 := Lib.hid ((hX37.out.below hb13).mono hb13.size)
  clear hX37
  have hZn := flds_here ho13
  obtain ⟨aoZ, caZ, rfl⟩ := hZn.shape
  have hZ0 := Lib.hid hZn
  clear hZn ho13
  go_wp2_with fail
  refine (cS2 _ _ w13 hZ0.out hA39.out).mono ?_
  rintro e w14 ⟨rfl, hb14⟩
  have hkc14 := hkc13.step hb14
  have hA41 := Lib.hid ((hA39.out.below hb14).mono hb14.size)
  clear hA39
  have hX42 := Lib.hid ((hX40.out.below hb14).mono hb14.size)
  clear hX40
  have hZ43 := Lib.hid ((hZ0.out.below hb14).mono hb14.size)
  clear hZ0
  clear hZ43
  go_wp2
  go_ret
  exact ⟨rfl, hkc14.below⟩

set_option maxHeartbeats 8000000 in
set_option maxRecDepth 100000 in
theorem drop_two (aoA : Option Addr) (caA : Nat) (A : List Fld) (n v u : List UInt8) (w : World) (hG : Good w) (hA0 : Hid (Flds w.heap.size w (.slice aoA A.length caA) A))
    (cFA : ∀ w1 : World, Flds w1.heap.size w1 (.slice aoA A.length caA) A → Calls Tryd.prog 11 #[.slice aoA A.length caA] w1 fun e w' => e = .returned (.bool true) ∧ Below w1.heap.size w1 w') (sA : SmF 60 A) (h_n : n.length ≤ 300) (h_v : v.length ≤ 300) (h_u : u.length ≤ 300) (hs : sameN u n = false) (ht : sameN u v = true) :
    Calls Tryd.prog 5 #[.slice aoA A.length caA, .string ⟨n.toArray⟩, .string ⟨v.toArray⟩, .string ⟨u.toArray⟩] w fun e w' => e = .returned (.bool true) ∧ Below w.heap.size w w' := by
  have hall2 : ∀ x ∈ [n, v], x.length ≤ 1000000 := fun x hx => by
    rcases List.mem_cons.1 hx with rfl | hx
    · omega
    · obtain rfl : x = v := by simpa using hx
      omega
  have sX := dropL_sm sA [n, v]
  have sV := dropL_sm sA [v]
  have lX := dropL_len [n, v] A
  have cD := fun w1 hA bo cb hN => c_Drop (w := w1) sA (by decide) (ao := aoA) (cap := caA) hA (names := [n, v]) (by simp) hall2 (bo := bo) (bcap := cb) hN
  have cG1 := fun ao ca w1 hX => c_Get (w := w1) sX (by decide) (ao := ao) (cap := ca) hX (n := n) (by omega)
  have cG2 := fun ao ca w1 hX => c_Get (w := w1) sX (by decide) (ao := ao) (cap := ca) hX (n := v) (by omega)
  rw [drop_gone (N := [n, v]) (n := n) (by simp)] at cG1
  rw [drop_gone (N := [n, v]) (n := v) (by simp)] at cG2
  have cAllX := fun ao ca w1 hX => c_All (w := w1) sX (by decide) (ao := ao) (cap := ca) hX (n := u) (by omega)
  have cAllA := fun w1 hA => c_All (w := w1) sA (by decide) (ao := aoA) (cap := caA) hA (n := u) (by omega)
  have cR := fun ao ca bo cb w1 hP hQ => ref08_Same (.slice ao (allL u (dropL [n, v] A)).length ca) (.slice bo (allL u A).length cb) (allL u (dropL [n, v] A)) (allL u A) (Nat.le_trans (allL_few sX u) (by decide)) (Nat.le_trans (allL_few sA u) (by decide)) w1 hP hQ
  have cUN := fun w1 => c_same u n (by omega) (by omega) w1
  have cUV := fun w1 => c_same u v (by omega) (by omega) w1
  rw [hs] at cUN
  rw [ht] at cUV
  have cDV := fun w1 hA bo cb hN => c_Drop (w := w1) sA (by decide) (ao := aoA) (cap := caA) hA (names := [v]) (by simp) (fun x hx => by rw [List.mem_singleton.1 hx]; omega) (bo := bo) (bcap := cb) hN
  have cDN := fun ao ca w1 hY bo cb hN => c_Drop (w := w1) sV (by decide) (ao := ao) (cap := ca) hY (names := [n]) (by simp) (fun x hx => by rw [List.mem_singleton.1 hx]; omega) (bo := bo) (bcap := cb) hN
  rw [dropL_two] at cDN
  have cS1 := fun ao ca bo cb w1 hZ hX => c_Same (w := w1) sX (by decide) (ao := ao) (cap := ca) hZ sX (by decide) (bo := bo) (bcap := cb) hX
  rw [beq_self_eq_true] at cS1
  have c0 := fun w1 hA => c_Drop (w := w1) sA (by decide) (ao := aoA) (cap := caA) hA (names := []) (by decide) (fun x hx => by cases hx) (bo := none) (bcap := 0) (.inl ⟨rfl, rfl⟩)
  rw [dropL_nil] at c0
  have cS2 := fun ao ca w1 hZ hA => c_Same (w := w1) sA (by decide) (ao := ao) (cap := ca) hZ sA (by decide) (bo := aoA) (bcap := caA) hA
  rw [beq_self_eq_true] at cS2
  clear sX sA sV hall2 hs ht
  generalize (allL u (dropL [n, v] A) == allL u A) = r at *
  generalize allL u (dropL [n, v] A) = T1 at *
  generalize dropL [n, v] A = X at *
  generalize dropL [v] A = Y at *
  generalize allL u A = T2 at *
  have hq : decide ((X.length : Int) ≤ (A.length : Int)) = true := decide_eq_true (by omega)
  have hqn : decide (X.length ≤ A.length) = true := decide_eq_true lX
  have d_n : decide ((300 : Int) < (n.length : Int)) = false := decide_eq_false (by omega)
  have e_n : decide (300 < n.length) = false := decide_eq_false (by omega)
  have d_v : decide ((300 : Int) < (v.length : Int)) = false := decide_eq_false (by omega)
  have e_v : decide (300 < v.length) = false := decide_eq_false (by omega)
  have d_u : decide ((300 : Int) < (u.length : Int)) = false := decide_eq_false (by omega)
  have e_u : decide (300 < u.length) = false := decide_eq_false (by omega)
  clear h_n h_v h_u
  have hk0 := Ok.refl hG
  go_enter Tryd.func5, Tryd.ntmps5
  go_wp2_with fail
  refine (awake13 w hk0.good).mono ?_
  rintro e w1 ⟨rfl, hb1⟩
  have hkc1 := hk0.step hb1
  have hA1 := Lib.hid ((hA0.out.below hb1).mono hb1.size)
  clear hA0
  go_wp2_with fail
  refine (cFA w1 hA1.out).mono ?_
  rintro e w2 ⟨rfl, hb2⟩
  have hkc2 := hkc1.step hb2
  have hA2 := Lib.hid ((hA1.out.below hb2).mono hb2.size)
  clear hA1
  have hba3 : Below w2.heap.size w2 (w2.alloc (.cells #[.string ⟨(n).toArray⟩, .string ⟨(v).toArray⟩] 9)) := (Below.refl _ _).alloc (Nat.le_refl _) _
  have hka3 := hkc2.alloc (.cells #[.string ⟨(n).toArray⟩, .string ⟨(v).toArray⟩] 9)
  have hNz := Lib.hid (texts_new w2 [n, v] (cap := 2))
  have hA4 := Lib.hid ((hA2.out.below hba3).mono hba3.size)
  clear hA2
  go_wp2_with fail
  refine (cD (w2.alloc (.cells #[.string ⟨(n).toArray⟩, .string ⟨(v).toArray⟩] 9)) hA4.out _ _ hNz.out).mono ?_
  rintro e w3 ⟨v3, rfl, ho3, hb3⟩
  have hkc3 := hka3.step hb3
  have hA5 := Lib.hid ((hA4.out.below hb3).mono hb3.size)
  clear hA4
  have hN6 := Lib.hid ((hNz.out.below hb3).mono hb3.size)
  clear hNz
  have hXn := flds_here ho3
  obtain ⟨aoX, caX, rfl⟩ := hXn.shape
  have hX0 := Lib.hid hXn
  clear hXn ho3
  clear hN6
  go_wp2_with fail
  refine (cG1 _ _ w3 hX0.out).mono ?_
  rintro e w4 ⟨rfl, hb4⟩
  have hkc4 := hkc3.step hb4
  have hA7 := Lib.hid ((hA5.out.below hb4).mono hb4.size)
  clear hA5
  have hX8 := Lib.hid ((hX0.out.below hb4).mono hb4.size)
  clear hX0
  go_wp2_with fail
  refine (cG2 _ _ w4 hX8.out).mono ?_
  rintro e w5 ⟨rfl, hb5⟩
  have hkc5 := hkc4.step hb5
  have hA9 := Lib.hid ((hA7.out.below hb5).mono hb5.size)
  clear hA7
  have hX10 := Lib.hid ((hX8.out.below hb5).mono hb5.size)
  clear hX8
  go_wp2_with fail
  refine (cAllX _ _ w5 hX10.out).mono ?_
  rintro e w6 ⟨v6, rfl, ho6, hb6⟩
  have hkc6 := hkc5.step hb6
  have hA11 := Lib.hid ((hA9.out.below hb6).mono hb6.size)
  clear hA9
  have hX12 := Lib.hid ((hX10.out.below hb6).mono hb6.size)
  clear hX10
  have hPn := (texts_own ho6 (Nat.le_refl _)).1
  obtain ⟨aoP, caP, rfl⟩ := hPn.shape
  have hP0 := Lib.hid hPn
  clear hPn ho6
  go_wp2_with fail
  refine (cAllA w6 hA11.out).mono ?_
  rintro e w7 ⟨v7, rfl, ho7, hb7⟩
  have hkc7 := hkc6.step hb7
  have hA13 := Lib.hid ((hA11.out.below hb7).mono hb7.size)
  clear hA11
  have hX14 := Lib.hid ((hX12.out.below hb7).mono hb7.size)
  clear hX12
  have hP15 := Lib.hid ((hP0.out.below hb7).mono hb7.size)
  clear hP0
  have hQn := (texts_own ho7 (Nat.le_refl _)).1
  obtain ⟨aoQ, caQ, rfl⟩ := hQn.shape
  have hQ0 := Lib.hid hQn
  clear hQn ho7
  go_wp2_with fail
  refine (cR _ _ _ _ w7 hP15.out hQ0.out).mono ?_
  rintro e w8 ⟨rfl, hb8⟩
  have hkc8 := hkc7.step hb8
  have hA16 := Lib.hid ((hA13.out.below hb8).mono hb8.size)
  clear hA13
  have hX17 := Lib.hid ((hX14.out.below hb8).mono hb8.size)
  clear hX14
  have hP18 := Lib.hid ((hP15.out.below hb8).mono hb8.size)
  clear hP15
  have hQ19 := Lib.hid ((hQ0.out.below hb8).mono hb8.size)
  clear hQ0
  clear hP18
  clear hQ19
  go_wp2_with fail
  refine (cUN w8).mono ?_
  rintro e w9 ⟨rfl, hb9⟩
  have hkc9 := hkc8.step hb9
  have hA20 := Lib.hid ((hA16.out.below hb9).mono hb9.size)
  clear hA16
  have hX21 := Lib.hid ((hX17.out.below hb9).mono hb9.size)
  clear hX17
  go_wp2_with fail
  refine (cUV w9).mono ?_
  rintro e w10 ⟨rfl, hb10⟩
  have hkc10 := hkc9.step hb10
  have hA22 := Lib.hid ((hA20.out.below hb10).mono hb10.size)
  clear hA20
  have hX23 := Lib.hid ((hX21.out.below hb10).mono hb10.size)
  clear hX21
  have hba24 : Below w10.heap.size w10 (w10.alloc (.cells #[.string ⟨(v).toArray⟩] 9)) := (Below.refl _ _).alloc (Nat.le_refl _) _
  have hka24 := hkc10.alloc (.cells #[.string ⟨(v).toArray⟩] 9)
  have hNz := Lib.hid (texts_new w10 [v] (cap := 1))
  have hA25 := Lib.hid ((hA22.out.below hba24).mono hba24.size)
  clear hA22
  have hX26 := Lib.hid ((hX23.out.below hba24).mono hba24.size)
  clear hX23
  go_wp2_with fail
  refine (cDV (w10.alloc (.cells #[.string ⟨(v).toArray⟩] 9)) hA25.out _ _ hNz.out).mono ?_
  rintro e w11 ⟨v11, rfl, ho11, hb11⟩
  have hkc11 := hka24.step hb11
  have hA27 := Lib.hid ((hA25.out.below hb11).mono hb11.size)
  clear hA25
  have hX28 := Lib.hid ((hX26.out.below hb11).mono hb11.size)
  clear hX26
  have hN29 := Lib.hid ((hNz.out.below hb11).mono hb11.size)
  clear hNz
  have hYn := flds_here ho11
  obtain ⟨aoY, caY, rfl⟩ := hYn.shape
  have hY0 := Lib.hid hYn
  clear hYn ho11
  clear hN29
  have hba30 : Below w11.heap.size w11 (w11.alloc (.cells #[.string ⟨(n).toArray⟩] 9)) := (Below.refl _ _).alloc (Nat.le_refl _) _
  have hka30 := hkc11.alloc (.cells #[.string ⟨(n).toArray⟩] 9)
  have hNz := Lib.hid (texts_new w11 [n] (cap := 1))
  have hA31 := Lib.hid ((hA27.out.below hba30).mono hba30.size)
  clear hA27
  have hX32 := Lib.hid ((hX28.out.below hba30).mono hba30.size)
  clear hX28
  have hY33 := Lib.hid ((hY0.out.below hba30).mono hba30.size)
  clear hY0
  go_wp2_with fail
  refine (cDN _ _ (w11.alloc (.cells #[.string ⟨(n).toArray⟩] 9)) hY33.out _ _ hNz.out).mono ?_
  rintro e w12 ⟨v12, rfl, ho12, hb12⟩
  have hkc12 := hka30.step hb12
  have hA34 := Lib.hid ((hA31.out.below hb12).mono hb12.size)
  clear hA31
  have hX35 := Lib.hid ((hX32.out.below hb12).mono hb12.size)
  clear hX32
  have hY36 := Lib.hid ((hY33.out.below hb12).mono hb12.size)
  clear hY33
  have hN37 := Lib.hid ((hNz.out.below hb12).mono hb12.size)
  clear hNz
  have hZn := flds_here ho12
  obtain ⟨aoZ, caZ, rfl⟩ := hZn.shape
  have hZ0 := Lib.hid hZn
  clear hZn ho12
  clear hN37
  clear hY36
  go_wp2_with fail
  refine (cS1 _ _ _ _ w12 hZ0.out hX35.out).mono ?_
  rintro e w13 ⟨rfl, hb13⟩
  have hkc13 := hkc12.step hb13
  have hA38 := Lib.hid ((hA34.out.below hb13).mono hb13.size)
  clear hA34
  have hX39 := Lib.hid ((hX35.out.below hb13).mono hb13.size)
  clear hX35
  have hZ40 := Lib.hid ((hZ0.out.below hb13).mono hb13.size)
  clear hZ0
  clear hZ40
  go_wp2_with fail
  refine (c0 w13 hA38.out).mono ?_
  rintro e w14 ⟨v14, rfl, ho14, hb14⟩
  have hkc14 := hkc13.step hb14
  have hA41 := Lib.hid ((hA38.out.below hb14).mono hb14.size)
  clear hA38
  have hX42 := Lib.hid ((hX39.out.below hb14).mono hb14.size)
  clear hX39
  have hZn := flds_here ho14
  obtain ⟨aoZ, caZ, rfl⟩ := hZn.shape
  have hZ0 := Lib.hid hZn
  clear hZn ho14
  go_wp2_with fail
  refine (cS2 _ _ w14 hZ0.out hA41.out).mono ?_
  rintro e w15 ⟨rfl, hb15⟩
  have hkc15 := hkc14.step hb15
  have hA43 := Lib.hid ((hA41.out.below hb15).mono hb15.size)
  clear hA41
  have hX44 := Lib.hid ((hX42.out.below hb15).mono hb15.size)
  clear hX42
  have hZ45 := Lib.hid ((hZ0.out.below hb15).mono hb15.size)
  clear hZ0
  clear hZ45
  go_wp2
  go_ret
  exact ⟨rfl, hkc15.below⟩

set_option maxHeartbeats 8000000 in
set_option maxRecDepth 100000 in
theorem drop_rest' (aoA : Option Addr) (caA : Nat) (A : List Fld) (n v u : List UInt8) (w : World) (hG : Good w) (hA0 : Hid (Flds w.heap.size w (.slice aoA A.length caA) A))
    (cFA : ∀ w1 : World, Flds w1.heap.size w1 (.slice aoA A.length caA) A → Calls Tryd.prog 11 #[.slice aoA A.length caA] w1 fun e w' => e = .returned (.bool true) ∧ Below w1.heap.size w1 w') (sA : SmF 60 A) (h_n : n.length ≤ 300) (h_v : v.length ≤ 300) (h_u : u.length ≤ 300) (hs : sameN u n = false) (ht : sameN u v = false) :
    Calls Tryd.prog 5 #[.slice aoA A.length caA, .string ⟨n.toArray⟩, .string ⟨v.toArray⟩, .string ⟨u.toArray⟩] w fun e w' => e = .returned (.bool true) ∧ Below w.heap.size w w' := by
  have hall2 : ∀ x ∈ [n, v], x.length ≤ 1000000 := fun x hx => by
    rcases List.mem_cons.1 hx with rfl | hx
    · omega
    · obtain rfl : x = v := by simpa using hx
      omega
  have sX := dropL_sm sA [n, v]
  have sV := dropL_sm sA [v]
  have lX := dropL_len [n, v] A
  have cD := fun w1 hA bo cb hN => c_Drop (w := w1) sA (by decide) (ao := aoA) (cap := caA) hA (names := [n, v]) (by simp) hall2 (bo := bo) (bcap := cb) hN
  have cG1 := fun ao ca w1 hX => c_Get (w := w1) sX (by decide) (ao := ao) (cap := ca) hX (n := n) (by omega)
  have cG2 := fun ao ca w1 hX => c_Get (w := w1) sX (by decide) (ao := ao) (cap := ca) hX (n := v) (by omega)
  rw [drop_gone (N := [n, v]) (n := n) (by simp)] at cG1
  rw [drop_gone (N := [n, v]) (n := v) (by simp)] at cG2
  have cAllX := fun ao ca w1 hX => c_All (w := w1) sX (by decide) (ao := ao) (cap := ca) hX (n := u) (by omega)
  have cAllA := fun w1 hA => c_All (w := w1) sA (by decide) (ao := aoA) (cap := caA) hA (n := u) (by omega)
  have cR := fun ao ca bo cb w1 hP hQ => ref08_Same (.slice ao (allL u (dropL [n, v] A)).length ca) (.slice bo (allL u A).length cb) (allL u (dropL [n, v] A)) (allL u A) (Nat.le_trans (allL_few sX u) (by decide)) (Nat.le_trans (allL_few sA u) (by decide)) w1 hP hQ
  have cUN := fun w1 => c_same u n (by omega) (by omega) w1
  have cUV := fun w1 => c_same u v (by omega) (by omega) w1
  rw [hs] at cUN
  rw [ht] at cUV
  have cDV := fun w1 hA bo cb hN => c_Drop (w := w1) sA (by decide) (ao := aoA) (cap := caA) hA (names := [v]) (by simp) (fun x hx => by rw [List.mem_singleton.1 hx]; omega) (bo := bo) (bcap := cb) hN
  have cDN := fun ao ca w1 hY bo cb hN => c_Drop (w := w1) sV (by decide) (ao := ao) (cap := ca) hY (names := [n]) (by simp) (fun x hx => by rw [List.mem_singleton.1 hx]; omega) (bo := bo) (bcap := cb) hN
  rw [dropL_two] at cDN
  have cS1 := fun ao ca bo cb w1 hZ hX => c_Same (w := w1) sX (by decide) (ao := ao) (cap := ca) hZ sX (by decide) (bo := bo) (bcap := cb) hX
  rw [beq_self_eq_true] at cS1
  have c0 := fun w1 hA => c_Drop (w := w1) sA (by decide) (ao := aoA) (cap := caA) hA (names := []) (by decide) (fun x hx => by cases hx) (bo := none) (bcap := 0) (.inl ⟨rfl, rfl⟩)
  rw [dropL_nil] at c0
  have cS2 := fun ao ca w1 hZ hA => c_Same (w := w1) sA (by decide) (ao := ao) (cap := ca) hZ sA (by decide) (bo := aoA) (bcap := caA) hA
  rw [beq_self_eq_true] at cS2
  rw [drop_rest hs ht, beq_self_eq_true] at cR
  rw [drop_rest hs ht] at cAllX
  clear sX sA sV hall2 hs ht
  generalize dropL [n, v] A = X at *
  generalize dropL [v] A = Y at *
  generalize allL u A = T2 at *
  have hq : decide ((X.length : Int) ≤ (A.length : Int)) = true := decide_eq_true (by omega)
  have hqn : decide (X.length ≤ A.length) = true := decide_eq_true lX
  have d_n : decide ((300 : Int) < (n.length : Int)) = false := decide_eq_false (by omega)
  have e_n : decide (300 < n.length) = false := decide_eq_false (by omega)
  have d_v : decide ((300 : Int) < (v.length : Int)) = false := decide_eq_false (by omega)
  have e_v : decide (300 < v.length) = false := decide_eq_false (by omega)
  have d_u : decide ((300 : Int) < (u.length : Int)) = false := decide_eq_false (by omega)
  have e_u : decide (300 < u.length) = false := decide_eq_false (by omega)
  clear h_n h_v h_u
  have hk0 := Ok.refl hG
  go_enter Tryd.func5, Tryd.ntmps5
  go_wp2_with fail
  refine (awake13 w hk0.good).mono ?_
  rintro e w1 ⟨rfl, hb1⟩
  have hkc1 := hk0.step hb1
  have hA1 := Lib.hid ((hA0.out.below hb1).mono hb1.size)
  clear hA0
  go_wp2_with fail
  refine (cFA w1 hA1.out).mono ?_
  rintro e w2 ⟨rfl, hb2⟩
  have hkc2 := hkc1.step hb2
  have hA2 := Lib.hid ((hA1.out.below hb2).mono hb2.size)
  clear hA1
  have hba3 : Below w2.heap.size w2 (w2.alloc (.cells #[.string ⟨(n).toArray⟩, .string ⟨(v).toArray⟩] 9)) := (Below.refl _ _).alloc (Nat.le_refl _) _
  have hka3 := hkc2.alloc (.cells #[.string ⟨(n).toArray⟩, .string ⟨(v).toArray⟩] 9)
  have hNz := Lib.hid (texts_new w2 [n, v] (cap := 2))
  have hA4 := Lib.hid ((hA2.out.below hba3).mono hba3.size)
  clear hA2
  go_wp2_with fail
  refine (cD (w2.alloc (.cells #[.string ⟨(n).toArray⟩, .string ⟨(v).toArray⟩] 9)) hA4.out _ _ hNz.out).mono ?_
  rintro e w3 ⟨v3, rfl, ho3, hb3⟩
  have hkc3 := hka3.step hb3
  have hA5 := Lib.hid ((hA4.out.below hb3).mono hb3.size)
  clear hA4
  have hN6 := Lib.hid ((hNz.out.below hb3).mono hb3.size)
  clear hNz
  have hXn := flds_here ho3
  obtain ⟨aoX, caX, rfl⟩ := hXn.shape
  have hX0 := Lib.hid hXn
  clear hXn ho3
  clear hN6
  go_wp2_with fail
  refine (cG1 _ _ w3 hX0.out).mono ?_
  rintro e w4 ⟨rfl, hb4⟩
  have hkc4 := hkc3.step hb4
  have hA7 := Lib.hid ((hA5.out.below hb4).mono hb4.size)
  clear hA5
  have hX8 := Lib.hid ((hX0.out.below hb4).mono hb4.size)
  clear hX0
  go_wp2_with fail
  refine (cG2 _ _ w4 hX8.out).mono ?_
  rintro e w5 ⟨rfl, hb5⟩
  have hkc5 := hkc4.step hb5
  have hA9 := Lib.hid ((hA7.out.below hb5).mono hb5.size)
  clear hA7
  have hX10 := Lib.hid ((hX8.out.below hb5).mono hb5.size)
  clear hX8
  go_wp2_with fail
  refine (cAllX _ _ w5 hX10.out).mono ?_
  rintro e w6 ⟨v6, rfl, ho6, hb6⟩
  have hkc6 := hkc5.step hb6
  have hA11 := Lib.hid ((hA9.out.below hb6).mono hb6.size)
  clear hA9
  have hX12 := Lib.hid ((hX10.out.below hb6).mono hb6.size)
  clear hX10
  have hPn := (texts_own ho6 (Nat.le_refl _)).1
  obtain ⟨aoP, caP, rfl⟩ := hPn.shape
  have hP0 := Lib.hid hPn
  clear hPn ho6
  go_wp2_with fail
  refine (cAllA w6 hA11.out).mono ?_
  rintro e w7 ⟨v7, rfl, ho7, hb7⟩
  have hkc7 := hkc6.step hb7
  have hA13 := Lib.hid ((hA11.out.below hb7).mono hb7.size)
  clear hA11
  have hX14 := Lib.hid ((hX12.out.below hb7).mono hb7.size)
  clear hX12
  have hP15 := Lib.hid ((hP0.out.below hb7).mono hb7.size)
  clear hP0
  have hQn := (texts_own ho7 (Nat.le_refl _)).1
  obtain ⟨aoQ, caQ, rfl⟩ := hQn.shape
  have hQ0 := Lib.hid hQn
  clear hQn ho7
  go_wp2_with fail
  refine (cR _ _ _ _ w7 hP15.out hQ0.out).mono ?_
  rintro e w8 ⟨rfl, hb8⟩
  have hkc8 := hkc7.step hb8
  have hA16 := Lib.hid ((hA13.out.below hb8).mono hb8.size)
  clear hA13
  have hX17 := Lib.hid ((hX14.out.below hb8).mono hb8.size)
  clear hX14
  have hP18 := Lib.hid ((hP15.out.below hb8).mono hb8.size)
  clear hP15
  have hQ19 := Lib.hid ((hQ0.out.below hb8).mono hb8.size)
  clear hQ0
  clear hP18
  clear hQ19
  go_wp2_with fail
  refine (cUN w8).mono ?_
  rintro e w9 ⟨rfl, hb9⟩
  have hkc9 := hkc8.step hb9
  have hA20 := Lib.hid ((hA16.out.below hb9).mono hb9.size)
  clear hA16
  have hX21 := Lib.hid ((hX17.out.below hb9).mono hb9.size)
  clear hX17
  go_wp2_with fail
  refine (cUV w9).mono ?_
  rintro e w10 ⟨rfl, hb10⟩
  have hkc10 := hkc9.step hb10
  have hA22 := Lib.hid ((hA20.out.below hb10).mono hb10.size)
  clear hA20
  have hX23 := Lib.hid ((hX21.out.below hb10).mono hb10.size)
  clear hX21
  have hba24 : Below w10.heap.size w10 (w10.alloc (.cells #[.string ⟨(v).toArray⟩] 9)) := (Below.refl _ _).alloc (Nat.le_refl _) _
  have hka24 := hkc10.alloc (.cells #[.string ⟨(v).toArray⟩] 9)
  have hNz := Lib.hid (texts_new w10 [v] (cap := 1))
  have hA25 := Lib.hid ((hA22.out.below hba24).mono hba24.size)
  clear hA22
  have hX26 := Lib.hid ((hX23.out.below hba24).mono hba24.size)
  clear hX23
  go_wp2_with fail
  refine (cDV (w10.alloc (.cells #[.string ⟨(v).toArray⟩] 9)) hA25.out _ _ hNz.out).mono ?_
  rintro e w11 ⟨v11, rfl, ho11, hb11⟩
  have hkc11 := hka24.step hb11
  have hA27 := Lib.hid ((hA25.out.below hb11).mono hb11.size)
  clear hA25
  have hX28 := Lib.hid ((hX26.out.below hb11).mono hb11.size)
  clear hX26
  have hN29 := Lib.hid ((hNz.out.below hb11).mono hb11.size)
  clear hNz
  have hYn := flds_here ho11
  obtain ⟨aoY, caY, rfl⟩ := hYn.shape
  have hY0 := Lib.hid hYn
  clear hYn ho11
  clear hN29
  have hba30 : Below w11.heap.size w11 (w11.alloc (.cells #[.string ⟨(n).toArray⟩] 9)) := (Below.refl _ _).alloc (Nat.le_refl _) _
  have hka30 := hkc11.alloc (.cells #[.string ⟨(n).toArray⟩] 9)
  have hNz := Lib.hid (texts_new w11 [n] (cap := 1))
  have hA31 := Lib.hid ((hA27.out.below hba30).mono hba30.size)
  clear hA27
  have hX32 := Lib.hid ((hX28.out.below hba30).mono hba30.size)
  clear hX28
  have hY33 := Lib.hid ((hY0.out.below hba30).mono hba30.size)
  clear hY0
  go_wp2_with fail
  refine (cDN _ _ (w11.alloc (.cells #[.string ⟨(n).toArray⟩] 9)) hY33.out _ _ hNz.out).mono ?_
  rintro e w12 ⟨v12, rfl, ho12, hb12⟩
  have hkc12 := hka30.step hb12
  have hA34 := Lib.hid ((hA31.out.below hb12).mono hb12.size)
  clear hA31
  have hX35 := Lib.hid ((hX32.out.below hb12).mono hb12.size)
  clear hX32
  have hY36 := Lib.hid ((hY33.out.below hb12).mono hb12.size)
  clear hY33
  have hN37 := Lib.hid ((hNz.out.below hb12).mono hb12.size)
  clear hNz
  have hZn := flds_here ho12
  obtain ⟨aoZ, caZ, rfl⟩ := hZn.shape
  have hZ0 := Lib.hid hZn
  clear hZn ho12
  clear hN37
  clear hY36
  go_wp2_with fail
  refine (cS1 _ _ _ _ w12 hZ0.out hX35.out).mono ?_
  rintro e w13 ⟨rfl, hb13⟩
  have hkc13 := hkc12.step hb13
  have hA38 := Lib.hid ((hA34.out.below hb13).mono hb13.size)
  clear hA34
  have hX39 := Lib.hid ((hX35.out.below hb13).mono hb13.size)
  clear hX35
  have hZ40 := Lib.hid ((hZ0.out.below hb13).mono hb13.size)
  clear hZ0
  clear hZ40
  go_wp2_with fail
  refine (c0 w13 hA38.out).mono ?_
  rintro e w14 ⟨v14, rfl, ho14, hb14⟩
  have hkc14 := hkc13.step hb14
  have hA41 := Lib.hid ((hA38.out.below hb14).mono hb14.size)
  clear hA38
  have hX42 := Lib.hid ((hX39.out.below hb14).mono hb14.size)
  clear hX39
  have hZn := flds_here ho14
  obtain ⟨aoZ, caZ, rfl⟩ := hZn.shape
  have hZ0 := Lib.hid hZn
  clear hZn ho14
  go_wp2_with fail
  refine (cS2 _ _ w14 hZ0.out hA41.out).mono ?_
  rintro e w15 ⟨rfl, hb15⟩
  have hkc15 := hkc14.step hb15
  have hA43 := Lib.hid ((hA41.out.below hb15).mono hb15.size)
  clear hA41
  have hX44 := Lib.hid ((hX42.out.below hb15).mono hb15.size)
  clear hX42
  have hZ45 := Lib.hid ((hZ0.out.below hb15).mono hb15.size)
  clear hZ0
  clear hZ45
  go_wp2
  go_ret
  exact ⟨rfl, hkc15.below⟩

theorem law_HeadSet (va : Value) (A : List Fld) (a1 a2 a3 : ByteArray) (_b1 : a1.size ≤ 140737488351232) (_b2 : a2.size ≤ 140737488351232) (_b3 : a3.size ≤ 140737488351232) (w : World) (hG : Good w)
    (hA : Flds w.heap.size w va A) (_oA : va.oneCell' = true) (mA : A.length ≤ maxLen) (nA : ∀ f ∈ A, f.1.length ≤ maxLen ∧ f.2.length ≤ maxLen) :
    Calls Tryd.prog 4 #[va, .string a1, .string a2, .string a3] w fun e w' => e = .returned (.bool true) ∧ Below w.heap.size w w' := by
  obtain ⟨n, rfl⟩ : ∃ l : List UInt8, a1 = ⟨l.toArray⟩ := ⟨a1.data.toList, rfl⟩
  obtain ⟨v, rfl⟩ : ∃ l : List UInt8, a2 = ⟨l.toArray⟩ := ⟨a2.data.toList, rfl⟩
  obtain ⟨u, rfl⟩ : ∃ l : List UInt8, a3 = ⟨l.toArray⟩ := ⟨a3.data.toList, rfl⟩
  obtain ⟨aoA, caA, rfl⟩ := hA.shape
  have cFA := fun (w1 : World) h => Few13_any (.slice aoA A.length caA) A mA nA w1 h
  cases hFA : few13 A <;> rw [hFA] at cFA
  · exact set_few aoA caA A n v u w hG (Lib.hid hA) cFA
  · rcases Nat.lt_or_ge 300 n.length with h_n | h_n
    · exact set_long_n aoA caA A n v u w hG (Lib.hid hA) cFA h_n
    · rcases Nat.lt_or_ge 300 v.length with h_v | h_v
      · exact set_long_v aoA caA A n v u w hG (Lib.hid hA) cFA h_n h_v
      · rcases Nat.lt_or_ge 300 u.length with h_u | h_u
        · exact set_long_u aoA caA A n v u w hG (Lib.hid hA) cFA h_n h_v h_u
        · cases hs : sameN n u
          · exact set_other aoA caA A n v u w hG (Lib.hid hA) cFA (few_sm2 hFA) h_n h_v h_u hs
          · exact set_same aoA caA A n v u w hG (Lib.hid hA) cFA (few_sm2 hFA) h_n h_v h_u hs

theorem law_HeadDrop (va : Value) (A : List Fld) (a1 a2 a3 : ByteArray) (_b1 : a1.size ≤ 140737488351232) (_b2 : a2.size ≤ 140737488351232) (_b3 : a3.size ≤ 140737488351232) (w : World) (hG : Good w)
    (hA : Flds w.heap.size w va A) (_oA : va.oneCell' = true) (mA : A.length ≤ maxLen) (nA : ∀ f ∈ A, f.1.length ≤ maxLen ∧ f.2.length ≤ maxLen) :
    Calls Tryd.prog 5 #[va, .string a1, .string a2, .string a3] w fun e w' => e = .returned (.bool true) ∧ Below w.heap.size w w' := by
  obtain ⟨n, rfl⟩ : ∃ l : List UInt8, a1 = ⟨l.toArray⟩ := ⟨a1.data.toList, rfl⟩
  obtain ⟨v, rfl⟩ : ∃ l : List UInt8, a2 = ⟨l.toArray⟩ := ⟨a2.data.toList, rfl⟩
  obtain ⟨u, rfl⟩ : ∃ l : List UInt8, a3 = ⟨l.toArray⟩ := ⟨a3.data.toList, rfl⟩
  obtain ⟨aoA, caA, rfl⟩ := hA.shape
  have cFA := fun (w1 : World) h => Few13_any (.slice aoA A.length caA) A mA nA w1 h
  cases hFA : few13 A <;> rw [hFA] at cFA
  · exact drop_few aoA caA A n v u w hG (Lib.hid hA) cFA
  · rcases Nat.lt_or_ge 300 n.length with h_n | h_n
    · exact drop_long_n aoA caA A n v u w hG (Lib.hid hA) cFA h_n
    · rcases Nat.lt_or_ge 300 v.length with h_v | h_v
      · exact drop_long_v aoA caA A n v u w hG (Lib.hid hA) cFA h_n h_v
      · rcases Nat.lt_or_ge 300 u.length with h_u | h_u
        · exact drop_long_u aoA caA A n v u w hG (Lib.hid hA) cFA h_n h_v h_u
        · cases hs : sameN u n
          · cases ht : sameN u v
            · exact drop_rest' aoA caA A n v u w hG (Lib.hid hA) cFA (few_sm2 hFA) h_n h_v h_u hs ht
            · exact drop_two aoA caA A n v u w hG (Lib.hid hA) cFA (few_sm2 hFA) h_n h_v h_u hs ht
          · exact drop_one aoA caA A n v u w hG (Lib.hid hA) cFA (few_sm2 hFA) h_n h_v h_u hs

end Go.Proofs.YtgbjofahmkeapaaDoor
