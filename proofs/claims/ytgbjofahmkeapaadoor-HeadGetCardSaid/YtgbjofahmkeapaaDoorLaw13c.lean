/- The laws HeadSame and HeadGet, walked over the contracts. -/
import Derived.Test.YtgbjofahmkeapaaDoorLaw13b
import Derived.Test.YtgbjofahmkeapaaDoorHead0
namespace Go.Proofs.YtgbjofahmkeapaaDoor
open Go.RowKit Go.Proofs.YtgbjofahmkeapaaDoorW.PrintWords
set_option linter.unusedVariables false
set_option linter.unnecessarySimpa false
set_option linter.unusedSimpArgs false

theorem few_sm {L : List Fld} (h : few13 L = true) : SmF 60 L := few13_yes h
theorem same_more (A : List Fld) (x : Fld) : (A == A ++ [x]) = false := beq_eq_false_iff_ne.2 (fun e => by have := congrArg List.length e; simp at this)
theorem same_turn (A B : List Fld) : (B == A) = (A == B) := by
  cases h : A == B
  · exact beq_eq_false_iff_ne.2 (fun e => by rw [e, beq_self_eq_true] at h; cases h)
  · rw [eq_of_beq h]; exact beq_self_eq_true B
theorem strs_turn (A B : List (List UInt8)) (h : A = B) : (A == B) = true := by rw [h]; exact beq_self_eq_true B

set_option maxHeartbeats 8000000 in
set_option maxRecDepth 100000 in
theorem same_few_a (aoA : Option Addr) (caA : Nat) (A : List Fld) (aoB : Option Addr) (caB : Nat) (B : List Fld) (i : Int) (w : World) (hG : Good w) (hA0 : Hid (Flds w.heap.size w (.slice aoA A.length caA) A)) (hB0 : Hid (Flds w.heap.size w (.slice aoB B.length caB) B))
    (cFA : ∀ w1 : World, Flds w1.heap.size w1 (.slice aoA A.length caA) A → Calls Tryd.prog 11 #[.slice aoA A.length caA] w1 fun e w' => e = .returned (.bool false) ∧ Below w1.heap.size w1 w')
    (cFB : ∀ w1 : World, Flds w1.heap.size w1 (.slice aoB B.length caB) B → Calls Tryd.prog 11 #[.slice aoB B.length caB] w1 fun e w' => e = .returned (.bool true) ∧ Below w1.heap.size w1 w') :
    Calls Tryd.prog 9 #[.slice aoA A.length caA, .slice aoB B.length caB, .int .i64 i] w fun e w' => e = .returned (.bool true) ∧ Below w.heap.size w w' := by
  have hk0 := Ok.refl hG
  go_enter Tryd.func9, Tryd.ntmps9
  go_wp2_with fail
  refine (awake13 w hk0.good).mono ?_
  rintro e w1 ⟨rfl, hb1⟩
  have hkc1 := hk0.step hb1
  have hA1 := Lib.hid ((hA0.out.below hb1).mono hb1.size)
  clear hA0
  have hB2 := Lib.hid ((hB0.out.below hb1).mono hb1.size)
  clear hB0
  go_wp2_with fail
  refine (cFA w1 hA1.out).mono ?_
  rintro e w2 ⟨rfl, hb2⟩
  have hkc2 := hkc1.step hb2
  have hA3 := Lib.hid ((hA1.out.below hb2).mono hb2.size)
  clear hA1
  have hB4 := Lib.hid ((hB2.out.below hb2).mono hb2.size)
  clear hB2
  go_wp2_with fail
  refine (cFB w2 hB4.out).mono ?_
  rintro e w3 ⟨rfl, hb3⟩
  have hkc3 := hkc2.step hb3
  have hA5 := Lib.hid ((hA3.out.below hb3).mono hb3.size)
  clear hA3
  have hB6 := Lib.hid ((hB4.out.below hb3).mono hb3.size)
  clear hB4
  go_wp2
  go_ret
  exact ⟨rfl, hkc3.below⟩

set_option maxHeartbeats 8000000 in
set_option maxRecDepth 100000 in
theorem same_few_b (aoA : Option Addr) (caA : Nat) (A : List Fld) (aoB : Option Addr) (caB : Nat) (B : List Fld) (i : Int) (w : World) (hG : Good w) (hA0 : Hid (Flds w.heap.size w (.slice aoA A.length caA) A)) (hB0 : Hid (Flds w.heap.size w (.slice aoB B.length caB) B))
    (cFA : ∀ w1 : World, Flds w1.heap.size w1 (.slice aoA A.length caA) A → Calls Tryd.prog 11 #[.slice aoA A.length caA] w1 fun e w' => e = .returned (.bool true) ∧ Below w1.heap.size w1 w')
    (cFB : ∀ w1 : World, Flds w1.heap.size w1 (.slice aoB B.length caB) B → Calls Tryd.prog 11 #[.slice aoB B.length caB] w1 fun e w' => e = .returned (.bool false) ∧ Below w1.heap.size w1 w') :
    Calls Tryd.prog 9 #[.slice aoA A.length caA, .slice aoB B.length caB, .int .i64 i] w fun e w' => e = .returned (.bool true) ∧ Below w.heap.size w w' := by
  have hk0 := Ok.refl hG
  go_enter Tryd.func9, Tryd.ntmps9
  go_wp2_with fail
  refine (awake13 w hk0.good).mono ?_
  rintro e w1 ⟨rfl, hb1⟩
  have hkc1 := hk0.step hb1
  have hA1 := Lib.hid ((hA0.out.below hb1).mono hb1.size)
  clear hA0
  have hB2 := Lib.hid ((hB0.out.below hb1).mono hb1.size)
  clear hB0
  go_wp2_with fail
  refine (cFA w1 hA1.out).mono ?_
  rintro e w2 ⟨rfl, hb2⟩
  have hkc2 := hkc1.step hb2
  have hA3 := Lib.hid ((hA1.out.below hb2).mono hb2.size)
  clear hA1
  have hB4 := Lib.hid ((hB2.out.below hb2).mono hb2.size)
  clear hB2
  go_wp2_with fail
  refine (cFB w2 hB4.out).mono ?_
  rintro e w3 ⟨rfl, hb3⟩
  have hkc3 := hkc2.step hb3
  have hA5 := Lib.hid ((hA3.out.below hb3).mono hb3.size)
  clear hA3
  have hB6 := Lib.hid ((hB4.out.below hb3).mono hb3.size)
  clear hB4
  go_wp2
  go_ret
  exact ⟨rfl, hkc3.below⟩

set_option maxHeartbeats 8000000 in
set_option maxRecDepth 100000 in
theorem same_few_c (aoA : Option Addr) (caA : Nat) (A : List Fld) (aoB : Option Addr) (caB : Nat) (B : List Fld) (i : Int) (w : World) (hG : Good w) (hA0 : Hid (Flds w.heap.size w (.slice aoA A.length caA) A)) (hB0 : Hid (Flds w.heap.size w (.slice aoB B.length caB) B))
    (cFA : ∀ w1 : World, Flds w1.heap.size w1 (.slice aoA A.length caA) A → Calls Tryd.prog 11 #[.slice aoA A.length caA] w1 fun e w' => e = .returned (.bool false) ∧ Below w1.heap.size w1 w')
    (cFB : ∀ w1 : World, Flds w1.heap.size w1 (.slice aoB B.length caB) B → Calls Tryd.prog 11 #[.slice aoB B.length caB] w1 fun e w' => e = .returned (.bool false) ∧ Below w1.heap.size w1 w') :
    Calls Tryd.prog 9 #[.slice aoA A.length caA, .slice aoB B.length caB, .int .i64 i] w fun e w' => e = .returned (.bool true) ∧ Below w.heap.size w w' := by
  have hk0 := Ok.refl hG
  go_enter Tryd.func9, Tryd.ntmps9
  go_wp2_with fail
  refine (awake13 w hk0.good).mono ?_
  rintro e w1 ⟨rfl, hb1⟩
  have hkc1 := hk0.step hb1
  have hA1 := Lib.hid ((hA0.out.below hb1).mono hb1.size)
  clear hA0
  have hB2 := Lib.hid ((hB0.out.below hb1).mono hb1.size)
  clear hB0
  go_wp2_with fail
  refine (cFA w1 hA1.out).mono ?_
  rintro e w2 ⟨rfl, hb2⟩
  have hkc2 := hkc1.step hb2
  have hA3 := Lib.hid ((hA1.out.below hb2).mono hb2.size)
  clear hA1
  have hB4 := Lib.hid ((hB2.out.below hb2).mono hb2.size)
  clear hB2
  go_wp2_with fail
  refine (cFB w2 hB4.out).mono ?_
  rintro e w3 ⟨rfl, hb3⟩
  have hkc3 := hkc2.step hb3
  have hA5 := Lib.hid ((hA3.out.below hb3).mono hb3.size)
  clear hA3
  have hB6 := Lib.hid ((hB4.out.below hb3).mono hb3.size)
  clear hB4
  go_wp2
  go_ret
  exact ⟨rfl, hkc3.below⟩

set_option maxHeartbeats 8000000 in
set_option maxRecDepth 100000 in
theorem same_no (aoA : Option Addr) (caA : Nat) (A : List Fld) (aoB : Option Addr) (caB : Nat) (B : List Fld) (i : Int) (w : World) (hG : Good w) (hA0 : Hid (Flds w.heap.size w (.slice aoA A.length caA) A)) (hB0 : Hid (Flds w.heap.size w (.slice aoB B.length caB) B))
    (cFA : ∀ w1 : World, Flds w1.heap.size w1 (.slice aoA A.length caA) A → Calls Tryd.prog 11 #[.slice aoA A.length caA] w1 fun e w' => e = .returned (.bool true) ∧ Below w1.heap.size w1 w')
    (cFB : ∀ w1 : World, Flds w1.heap.size w1 (.slice aoB B.length caB) B → Calls Tryd.prog 11 #[.slice aoB B.length caB] w1 fun e w' => e = .returned (.bool true) ∧ Below w1.heap.size w1 w') (sA : SmF 60 A) (sB : SmF 60 B) (hsm : (A == B) = false) :
    Calls Tryd.prog 9 #[.slice aoA A.length caA, .slice aoB B.length caB, .int .i64 i] w fun e w' => e = .returned (.bool true) ∧ Below w.heap.size w w' := by
  have hla : A.length ≤ 60 := sA.1
  obtain ⟨M, eqM⟩ : ∃ M : List Fld, M = A ++ [([120], [])] := ⟨_, rfl⟩
  have hsx : SmF 61 M := ⟨by rw [eqM, List.length_append]; exact Nat.succ_le_succ sA.1, fun f hf => by
    rw [eqM] at hf
    rcases List.mem_append.1 hf with h | h
    · exact sA.2 f h
    · obtain rfl : f = ([120], []) := by simpa using h
      decide⟩
  have cS := fun w1 hA hB => c_Same (w := w1) sA (by decide) (ao := aoA) (cap := caA) hA sB (by decide) (bo := aoB) (bcap := caB) hB
  have cBA := fun w1 hB hA => c_Same (w := w1) sB (by decide) (ao := aoB) (cap := caB) hB sA (by decide) (bo := aoA) (bcap := caA) hA
  have cAA := fun w1 hA => c_Same (w := w1) sA (by decide) (ao := aoA) (cap := caA) hA sA (by decide) (bo := aoA) (bcap := caA) hA
  have cAM := fun ao ca w1 hA hM => c_Same (w := w1) sA (by decide) (ao := aoA) (cap := caA) hA hsx (by decide) (bo := ao) (bcap := ca) hM
  rw [same_turn] at cBA
  rw [hsm] at cS cBA
  rw [beq_self_eq_true] at cAA
  rw [show (A == M) = false by rw [eqM]; exact same_more _ _] at cAM
  have eqMh := Lib.hid eqM
  clear eqM

  have hk0 := Ok.refl hG
  go_enter Tryd.func9, Tryd.ntmps9
  go_wp2_with fail
  refine (awake13 w hk0.good).mono ?_
  rintro e w1 ⟨rfl, hb1⟩
  have hkc1 := hk0.step hb1
  have hA1 := Lib.hid ((hA0.out.below hb1).mono hb1.size)
  clear hA0
  have hB2 := Lib.hid ((hB0.out.below hb1).mono hb1.size)
  clear hB0
  go_wp2_with fail
  refine (cFA w1 hA1.out).mono ?_
  rintro e w2 ⟨rfl, hb2⟩
  have hkc2 := hkc1.step hb2
  have hA3 := Lib.hid ((hA1.out.below hb2).mono hb2.size)
  clear hA1
  have hB4 := Lib.hid ((hB2.out.below hb2).mono hb2.size)
  clear hB2
  go_wp2_with fail
  refine (cFB w2 hB4.out).mono ?_
  rintro e w3 ⟨rfl, hb3⟩
  have hkc3 := hkc2.step hb3
  have hA5 := Lib.hid ((hA3.out.below hb3).mono hb3.size)
  clear hA3
  have hB6 := Lib.hid ((hB4.out.below hb3).mono hb3.size)
  clear hB4
  go_wp2_with fail
  refine (cS w3 hA5.out hB6.out).mono ?_
  rintro e w4 ⟨rfl, hb4⟩
  have hkc4 := hkc3.step hb4
  have hA7 := Lib.hid ((hA5.out.below hb4).mono hb4.size)
  clear hA5
  have hB8 := Lib.hid ((hB6.out.below hb4).mono hb4.size)
  clear hB6
  go_wp2_with (at_builtin; refine wpList_appendFs rfl _ _ rfl (w4.heap.size) w4 _ ([]) (A) _ (by rfl) (by rfl) hA7.out (World.ownsRow_nil _ _ _ _) (Nat.le_refl _) (by simp only [List.length_nil, List.length_append, List.length_cons]; omega) ?_)
  intro v5 w5 ho5 hp5
  have hq5 := hp5
  go_wp2_with (at_builtin; refine wpList_appendF rfl _ _ rfl _ (w4.heap.size) w5 _ rfl _ ([] ++ A) ([120], []) (by rfl) (by rfl) ho5 hq5.size (by simp only [List.length_nil, List.length_append, List.length_cons]; omega) ?_)
  intro v6 w6 ho6 hg6 _
  have hp6 := own_below ho5 hq5.size hg6
  have hq6 := hq5.trans hp6
  have hkc6 := hkc4.step hq6
  have hA9 := Lib.hid ((hA7.out.below hq6).mono hq6.size)
  clear hA7
  have hB10 := Lib.hid ((hB8.out.below hq6).mono hq6.size)
  clear hB8
  have hr6 : w6.ownsRow (w4.heap.size) 42 2 v6 (A ++ [([120], [])]).length (flds (A ++ [([120], [])])) := by simpa using ho6
  rw [← eqMh.out] at hr6
  have hMn := flds_here hr6
  obtain ⟨aoM, caM, rfl⟩ := hMn.shape
  have hM0 := Lib.hid hMn
  clear hMn ho6 hr6
  go_wp2_with fail
  refine (cAA w6 hA9.out).mono ?_
  rintro e w7 ⟨rfl, hb7⟩
  have hkc7 := hkc6.step hb7
  have hA11 := Lib.hid ((hA9.out.below hb7).mono hb7.size)
  clear hA9
  have hB12 := Lib.hid ((hB10.out.below hb7).mono hb7.size)
  clear hB10
  have hM13 := Lib.hid ((hM0.out.below hb7).mono hb7.size)
  clear hM0
  go_wp2_with fail
  refine (cBA w7 hB12.out hA11.out).mono ?_
  rintro e w8 ⟨rfl, hb8⟩
  have hkc8 := hkc7.step hb8
  have hA14 := Lib.hid ((hA11.out.below hb8).mono hb8.size)
  clear hA11
  have hB15 := Lib.hid ((hB12.out.below hb8).mono hb8.size)
  clear hB12
  have hM16 := Lib.hid ((hM13.out.below hb8).mono hb8.size)
  clear hM13
  go_wp2_with fail
  refine (cAM _ _ w8 hA14.out hM16.out).mono ?_
  rintro e w9 ⟨rfl, hb9⟩
  have hkc9 := hkc8.step hb9
  have hA17 := Lib.hid ((hA14.out.below hb9).mono hb9.size)
  clear hA14
  have hB18 := Lib.hid ((hB15.out.below hb9).mono hb9.size)
  clear hB15
  have hM19 := Lib.hid ((hM16.out.below hb9).mono hb9.size)
  clear hM16
  go_wp2
  go_big_region
  go_wp2
  go_ret
  exact ⟨rfl, hkc9.drew.below⟩

set_option maxHeartbeats 8000000 in
set_option maxRecDepth 100000 in
theorem same_neg (aoA : Option Addr) (caA : Nat) (A : List Fld) (aoB : Option Addr) (caB : Nat) (B : List Fld) (i : Int) (w : World) (hG : Good w) (hA0 : Hid (Flds w.heap.size w (.slice aoA A.length caA) A)) (hB0 : Hid (Flds w.heap.size w (.slice aoB B.length caB) B))
    (cFA : ∀ w1 : World, Flds w1.heap.size w1 (.slice aoA A.length caA) A → Calls Tryd.prog 11 #[.slice aoA A.length caA] w1 fun e w' => e = .returned (.bool true) ∧ Below w1.heap.size w1 w')
    (cFB : ∀ w1 : World, Flds w1.heap.size w1 (.slice aoB B.length caB) B → Calls Tryd.prog 11 #[.slice aoB B.length caB] w1 fun e w' => e = .returned (.bool true) ∧ Below w1.heap.size w1 w') (sA : SmF 60 A) (sB : SmF 60 B) (hsm : (A == B) = true) (hi : i < 0) :
    Calls Tryd.prog 9 #[.slice aoA A.length caA, .slice aoB B.length caB, .int .i64 i] w fun e w' => e = .returned (.bool true) ∧ Below w.heap.size w w' := by
  have hla : A.length ≤ 60 := sA.1
  obtain ⟨M, eqM⟩ : ∃ M : List Fld, M = A ++ [([120], [])] := ⟨_, rfl⟩
  have hsx : SmF 61 M := ⟨by rw [eqM, List.length_append]; exact Nat.succ_le_succ sA.1, fun f hf => by
    rw [eqM] at hf
    rcases List.mem_append.1 hf with h | h
    · exact sA.2 f h
    · obtain rfl : f = ([120], []) := by simpa using h
      decide⟩
  have cS := fun w1 hA hB => c_Same (w := w1) sA (by decide) (ao := aoA) (cap := caA) hA sB (by decide) (bo := aoB) (bcap := caB) hB
  have cBA := fun w1 hB hA => c_Same (w := w1) sB (by decide) (ao := aoB) (cap := caB) hB sA (by decide) (bo := aoA) (bcap := caA) hA
  have cAA := fun w1 hA => c_Same (w := w1) sA (by decide) (ao := aoA) (cap := caA) hA sA (by decide) (bo := aoA) (bcap := caA) hA
  have cAM := fun ao ca w1 hA hM => c_Same (w := w1) sA (by decide) (ao := aoA) (cap := caA) hA hsx (by decide) (bo := ao) (bcap := ca) hM
  rw [same_turn] at cBA
  rw [hsm] at cS cBA
  rw [beq_self_eq_true] at cAA
  rw [show (A == M) = false by rw [eqM]; exact same_more _ _] at cAM
  have eqMh := Lib.hid eqM
  clear eqM
  have hle : ((A.length : Int) == (B.length : Int)) = true := by rw [eq_of_beq hsm]; exact beq_self_eq_true _
  have g1 : decide (i < 0) = true := decide_eq_true hi
  have hk0 := Ok.refl hG
  go_enter Tryd.func9, Tryd.ntmps9
  go_wp2_with fail
  refine (awake13 w hk0.good).mono ?_
  rintro e w1 ⟨rfl, hb1⟩
  have hkc1 := hk0.step hb1
  have hA1 := Lib.hid ((hA0.out.below hb1).mono hb1.size)
  clear hA0
  have hB2 := Lib.hid ((hB0.out.below hb1).mono hb1.size)
  clear hB0
  go_wp2_with fail
  refine (cFA w1 hA1.out).mono ?_
  rintro e w2 ⟨rfl, hb2⟩
  have hkc2 := hkc1.step hb2
  have hA3 := Lib.hid ((hA1.out.below hb2).mono hb2.size)
  clear hA1
  have hB4 := Lib.hid ((hB2.out.below hb2).mono hb2.size)
  clear hB2
  go_wp2_with fail
  refine (cFB w2 hB4.out).mono ?_
  rintro e w3 ⟨rfl, hb3⟩
  have hkc3 := hkc2.step hb3
  have hA5 := Lib.hid ((hA3.out.below hb3).mono hb3.size)
  clear hA3
  have hB6 := Lib.hid ((hB4.out.below hb3).mono hb3.size)
  clear hB4
  go_wp2_with fail
  refine (cS w3 hA5.out hB6.out).mono ?_
  rintro e w4 ⟨rfl, hb4⟩
  have hkc4 := hkc3.step hb4
  have hA7 := Lib.hid ((hA5.out.below hb4).mono hb4.size)
  clear hA5
  have hB8 := Lib.hid ((hB6.out.below hb4).mono hb4.size)
  clear hB6
  go_wp2_with (at_builtin; refine wpList_appendFs rfl _ _ rfl (w4.heap.size) w4 _ ([]) (A) _ (by rfl) (by rfl) hA7.out (World.ownsRow_nil _ _ _ _) (Nat.le_refl _) (by simp only [List.length_nil, List.length_append, List.length_cons]; omega) ?_)
  intro v5 w5 ho5 hp5
  have hq5 := hp5
  go_wp2_with (at_builtin; refine wpList_appendF rfl _ _ rfl _ (w4.heap.size) w5 _ rfl _ ([] ++ A) ([120], []) (by rfl) (by rfl) ho5 hq5.size (by simp only [List.length_nil, List.length_append, List.length_cons]; omega) ?_)
  intro v6 w6 ho6 hg6 _
  have hp6 := own_below ho5 hq5.size hg6
  have hq6 := hq5.trans hp6
  have hkc6 := hkc4.step hq6
  have hA9 := Lib.hid ((hA7.out.below hq6).mono hq6.size)
  clear hA7
  have hB10 := Lib.hid ((hB8.out.below hq6).mono hq6.size)
  clear hB8
  have hr6 : w6.ownsRow (w4.heap.size) 42 2 v6 (A ++ [([120], [])]).length (flds (A ++ [([120], [])])) := by simpa using ho6
  rw [← eqMh.out] at hr6
  have hMn := flds_here hr6
  obtain ⟨aoM, caM, rfl⟩ := hMn.shape
  have hM0 := Lib.hid hMn
  clear hMn ho6 hr6
  go_wp2_with fail
  refine (cAA w6 hA9.out).mono ?_
  rintro e w7 ⟨rfl, hb7⟩
  have hkc7 := hkc6.step hb7
  have hA11 := Lib.hid ((hA9.out.below hb7).mono hb7.size)
  clear hA9
  have hB12 := Lib.hid ((hB10.out.below hb7).mono hb7.size)
  clear hB10
  have hM13 := Lib.hid ((hM0.out.below hb7).mono hb7.size)
  clear hM0
  go_wp2_with fail
  refine (cBA w7 hB12.out hA11.out).mono ?_
  rintro e w8 ⟨rfl, hb8⟩
  have hkc8 := hkc7.step hb8
  have hA14 := Lib.hid ((hA11.out.below hb8).mono hb8.size)
  clear hA11
  have hB15 := Lib.hid ((hB12.out.below hb8).mono hb8.size)
  clear hB12
  have hM16 := Lib.hid ((hM13.out.below hb8).mono hb8.size)
  clear hM13
  go_wp2_with fail
  refine (cAM _ _ w8 hA14.out hM16.out).mono ?_
  rintro e w9 ⟨rfl, hb9⟩
  have hkc9 := hkc8.step hb9
  have hA17 := Lib.hid ((hA14.out.below hb9).mono hb9.size)
  clear hA14
  have hB18 := Lib.hid ((hB15.out.below hb9).mono hb9.size)
  clear hB15
  have hM19 := Lib.hid ((hM16.out.below hb9).mono hb9.size)
  clear hM16
  go_wp2
  go_big_region
  go_wp2
  go_ret
  exact ⟨rfl, hkc9.drew.below⟩

set_option maxHeartbeats 8000000 in
set_option maxRecDepth 100000 in
theorem same_out (aoA : Option Addr) (caA : Nat) (A : List Fld) (aoB : Option Addr) (caB : Nat) (B : List Fld) (i : Int) (w : World) (hG : Good w) (hA0 : Hid (Flds w.heap.size w (.slice aoA A.length caA) A)) (hB0 : Hid (Flds w.heap.size w (.slice aoB B.length caB) B))
    (cFA : ∀ w1 : World, Flds w1.heap.size w1 (.slice aoA A.length caA) A → Calls Tryd.prog 11 #[.slice aoA A.length caA] w1 fun e w' => e = .returned (.bool true) ∧ Below w1.heap.size w1 w')
    (cFB : ∀ w1 : World, Flds w1.heap.size w1 (.slice aoB B.length caB) B → Calls Tryd.prog 11 #[.slice aoB B.length caB] w1 fun e w' => e = .returned (.bool true) ∧ Below w1.heap.size w1 w') (sA : SmF 60 A) (sB : SmF 60 B) (hsm : (A == B) = true) (k : Nat) (hi : i = k) (hk : A.length ≤ k) :
    Calls Tryd.prog 9 #[.slice aoA A.length caA, .slice aoB B.length caB, .int .i64 i] w fun e w' => e = .returned (.bool true) ∧ Below w.heap.size w w' := by
  have hla : A.length ≤ 60 := sA.1
  obtain ⟨M, eqM⟩ : ∃ M : List Fld, M = A ++ [([120], [])] := ⟨_, rfl⟩
  have hsx : SmF 61 M := ⟨by rw [eqM, List.length_append]; exact Nat.succ_le_succ sA.1, fun f hf => by
    rw [eqM] at hf
    rcases List.mem_append.1 hf with h | h
    · exact sA.2 f h
    · obtain rfl : f = ([120], []) := by simpa using h
      decide⟩
  have cS := fun w1 hA hB => c_Same (w := w1) sA (by decide) (ao := aoA) (cap := caA) hA sB (by decide) (bo := aoB) (bcap := caB) hB
  have cBA := fun w1 hB hA => c_Same (w := w1) sB (by decide) (ao := aoB) (cap := caB) hB sA (by decide) (bo := aoA) (bcap := caA) hA
  have cAA := fun w1 hA => c_Same (w := w1) sA (by decide) (ao := aoA) (cap := caA) hA sA (by decide) (bo := aoA) (bcap := caA) hA
  have cAM := fun ao ca w1 hA hM => c_Same (w := w1) sA (by decide) (ao := aoA) (cap := caA) hA hsx (by decide) (bo := ao) (bcap := ca) hM
  rw [same_turn] at cBA
  rw [hsm] at cS cBA
  rw [beq_self_eq_true] at cAA
  rw [show (A == M) = false by rw [eqM]; exact same_more _ _] at cAM
  have eqMh := Lib.hid eqM
  clear eqM
  have hle : ((A.length : Int) == (B.length : Int)) = true := by rw [eq_of_beq hsm]; exact beq_self_eq_true _
  subst hi
  have g1 : decide ((k : Int) < 0) = false := decide_eq_false (by omega)
  have g2 : decide ((A.length : Int) ≤ (k : Int)) = true := decide_eq_true (by omega)
  have g2n : decide (A.length ≤ k) = true := decide_eq_true (by omega)
  clear hk
  have hk0 := Ok.refl hG
  go_enter Tryd.func9, Tryd.ntmps9
  go_wp2_with fail
  refine (awake13 w hk0.good).mono ?_
  rintro e w1 ⟨rfl, hb1⟩
  have hkc1 := hk0.step hb1
  have hA1 := Lib.hid ((hA0.out.below hb1).mono hb1.size)
  clear hA0
  have hB2 := Lib.hid ((hB0.out.below hb1).mono hb1.size)
  clear hB0
  go_wp2_with fail
  refine (cFA w1 hA1.out).mono ?_
  rintro e w2 ⟨rfl, hb2⟩
  have hkc2 := hkc1.step hb2
  have hA3 := Lib.hid ((hA1.out.below hb2).mono hb2.size)
  clear hA1
  have hB4 := Lib.hid ((hB2.out.below hb2).mono hb2.size)
  clear hB2
  go_wp2_with fail
  refine (cFB w2 hB4.out).mono ?_
  rintro e w3 ⟨rfl, hb3⟩
  have hkc3 := hkc2.step hb3
  have hA5 := Lib.hid ((hA3.out.below hb3).mono hb3.size)
  clear hA3
  have hB6 := Lib.hid ((hB4.out.below hb3).mono hb3.size)
  clear hB4
  go_wp2_with fail
  refine (cS w3 hA5.out hB6.out).mono ?_
  rintro e w4 ⟨rfl, hb4⟩
  have hkc4 := hkc3.step hb4
  have hA7 := Lib.hid ((hA5.out.below hb4).mono hb4.size)
  clear hA5
  have hB8 := Lib.hid ((hB6.out.below hb4).mono hb4.size)
  clear hB6
  go_wp2_with (at_builtin; refine wpList_appendFs rfl _ _ rfl (w4.heap.size) w4 _ ([]) (A) _ (by rfl) (by rfl) hA7.out (World.ownsRow_nil _ _ _ _) (Nat.le_refl _) (by simp only [List.length_nil, List.length_append, List.length_cons]; omega) ?_)
  intro v5 w5 ho5 hp5
  have hq5 := hp5
  go_wp2_with (at_builtin; refine wpList_appendF rfl _ _ rfl _ (w4.heap.size) w5 _ rfl _ ([] ++ A) ([120], []) (by rfl) (by rfl) ho5 hq5.size (by simp only [List.length_nil, List.length_append, List.length_cons]; omega) ?_)
  intro v6 w6 ho6 hg6 _
  have hp6 := own_below ho5 hq5.size hg6
  have hq6 := hq5.trans hp6
  have hkc6 := hkc4.step hq6
  have hA9 := Lib.hid ((hA7.out.below hq6).mono hq6.size)
  clear hA7
  have hB10 := Lib.hid ((hB8.out.below hq6).mono hq6.size)
  clear hB8
  have hr6 : w6.ownsRow (w4.heap.size) 42 2 v6 (A ++ [([120], [])]).length (flds (A ++ [([120], [])])) := by simpa using ho6
  rw [← eqMh.out] at hr6
  have hMn := flds_here hr6
  obtain ⟨aoM, caM, rfl⟩ := hMn.shape
  have hM0 := Lib.hid hMn
  clear hMn ho6 hr6
  go_wp2_with fail
  refine (cAA w6 hA9.out).mono ?_
  rintro e w7 ⟨rfl, hb7⟩
  have hkc7 := hkc6.step hb7
  have hA11 := Lib.hid ((hA9.out.below hb7).mono hb7.size)
  clear hA9
  have hB12 := Lib.hid ((hB10.out.below hb7).mono hb7.size)
  clear hB10
  have hM13 := Lib.hid ((hM0.out.below hb7).mono hb7.size)
  clear hM0
  go_wp2_with fail
  refine (cBA w7 hB12.out hA11.out).mono ?_
  rintro e w8 ⟨rfl, hb8⟩
  have hkc8 := hkc7.step hb8
  have hA14 := Lib.hid ((hA11.out.below hb8).mono hb8.size)
  clear hA11
  have hB15 := Lib.hid ((hB12.out.below hb8).mono hb8.size)
  clear hB12
  have hM16 := Lib.hid ((hM13.out.below hb8).mono hb8.size)
  clear hM13
  go_wp2_with fail
  refine (cAM _ _ w8 hA14.out hM16.out).mono ?_
  rintro e w9 ⟨rfl, hb9⟩
  have hkc9 := hkc8.step hb9
  have hA17 := Lib.hid ((hA14.out.below hb9).mono hb9.size)
  clear hA14
  have hB18 := Lib.hid ((hB15.out.below hb9).mono hb9.size)
  clear hB15
  have hM19 := Lib.hid ((hM16.out.below hb9).mono hb9.size)
  clear hM16
  go_wp2
  go_big_region
  go_wp2
  go_ret
  exact ⟨rfl, hkc9.drew.below⟩

set_option maxHeartbeats 8000000 in
set_option maxRecDepth 100000 in
theorem same_in (aoA : Option Addr) (caA : Nat) (A : List Fld) (aoB : Option Addr) (caB : Nat) (B : List Fld) (i : Int) (w : World) (hG : Good w) (hA0 : Hid (Flds w.heap.size w (.slice aoA A.length caA) A)) (hB0 : Hid (Flds w.heap.size w (.slice aoB B.length caB) B))
    (cFA : ∀ w1 : World, Flds w1.heap.size w1 (.slice aoA A.length caA) A → Calls Tryd.prog 11 #[.slice aoA A.length caA] w1 fun e w' => e = .returned (.bool true) ∧ Below w1.heap.size w1 w')
    (cFB : ∀ w1 : World, Flds w1.heap.size w1 (.slice aoB B.length caB) B → Calls Tryd.prog 11 #[.slice aoB B.length caB] w1 fun e w' => e = .returned (.bool true) ∧ Below w1.heap.size w1 w') (sA : SmF 60 A) (sB : SmF 60 B) (hsm : (A == B) = true) (k : Nat) (hi : i = k) (hk : k < A.length) (x : Fld) (hx : A[k]? = some x) :
    Calls Tryd.prog 9 #[.slice aoA A.length caA, .slice aoB B.length caB, .int .i64 i] w fun e w' => e = .returned (.bool true) ∧ Below w.heap.size w w' := by
  have hla : A.length ≤ 60 := sA.1
  obtain ⟨M, eqM⟩ : ∃ M : List Fld, M = A ++ [([120], [])] := ⟨_, rfl⟩
  have hsx : SmF 61 M := ⟨by rw [eqM, List.length_append]; exact Nat.succ_le_succ sA.1, fun f hf => by
    rw [eqM] at hf
    rcases List.mem_append.1 hf with h | h
    · exact sA.2 f h
    · obtain rfl : f = ([120], []) := by simpa using h
      decide⟩
  have cS := fun w1 hA hB => c_Same (w := w1) sA (by decide) (ao := aoA) (cap := caA) hA sB (by decide) (bo := aoB) (bcap := caB) hB
  have cBA := fun w1 hB hA => c_Same (w := w1) sB (by decide) (ao := aoB) (cap := caB) hB sA (by decide) (bo := aoA) (bcap := caA) hA
  have cAA := fun w1 hA => c_Same (w := w1) sA (by decide) (ao := aoA) (cap := caA) hA sA (by decide) (bo := aoA) (bcap := caA) hA
  have cAM := fun ao ca w1 hA hM => c_Same (w := w1) sA (by decide) (ao := aoA) (cap := caA) hA hsx (by decide) (bo := ao) (bcap := ca) hM
  rw [same_turn] at cBA
  rw [hsm] at cS cBA
  rw [beq_self_eq_true] at cAA
  rw [show (A == M) = false by rw [eqM]; exact same_more _ _] at cAM
  have eqMh := Lib.hid eqM
  clear eqM
  have hle : ((A.length : Int) == (B.length : Int)) = true := by rw [eq_of_beq hsm]; exact beq_self_eq_true _
  have hy : B[k]? = some x := by rw [← eq_of_beq hsm]; exact hx
  have hkb : k < B.length := (List.getElem?_eq_some_iff.1 hy).1
  clear hsm
  subst hi
  have g1 : decide ((k : Int) < 0) = false := decide_eq_false (by omega)
  have g2 : decide ((A.length : Int) ≤ (k : Int)) = false := decide_eq_false (by omega)
  have g2n : decide (A.length ≤ k) = false := decide_eq_false (by omega)
  have hk0 := Ok.refl hG
  go_enter Tryd.func9, Tryd.ntmps9
  go_wp2_with fail
  refine (awake13 w hk0.good).mono ?_
  rintro e w1 ⟨rfl, hb1⟩
  have hkc1 := hk0.step hb1
  have hA1 := Lib.hid ((hA0.out.below hb1).mono hb1.size)
  clear hA0
  have hB2 := Lib.hid ((hB0.out.below hb1).mono hb1.size)
  clear hB0
  go_wp2_with fail
  refine (cFA w1 hA1.out).mono ?_
  rintro e w2 ⟨rfl, hb2⟩
  have hkc2 := hkc1.step hb2
  have hA3 := Lib.hid ((hA1.out.below hb2).mono hb2.size)
  clear hA1
  have hB4 := Lib.hid ((hB2.out.below hb2).mono hb2.size)
  clear hB2
  go_wp2_with fail
  refine (cFB w2 hB4.out).mono ?_
  rintro e w3 ⟨rfl, hb3⟩
  have hkc3 := hkc2.step hb3
  have hA5 := Lib.hid ((hA3.out.below hb3).mono hb3.size)
  clear hA3
  have hB6 := Lib.hid ((hB4.out.below hb3).mono hb3.size)
  clear hB4
  go_wp2_with fail
  refine (cS w3 hA5.out hB6.out).mono ?_
  rintro e w4 ⟨rfl, hb4⟩
  have hkc4 := hkc3.step hb4
  have hA7 := Lib.hid ((hA5.out.below hb4).mono hb4.size)
  clear hA5
  have hB8 := Lib.hid ((hB6.out.below hb4).mono hb4.size)
  clear hB6
  go_wp2_with (at_builtin; refine wpList_appendFs rfl _ _ rfl (w4.heap.size) w4 _ ([]) (A) _ (by rfl) (by rfl) hA7.out (World.ownsRow_nil _ _ _ _) (Nat.le_refl _) (by simp only [List.length_nil, List.length_append, List.length_cons]; omega) ?_)
  intro v5 w5 ho5 hp5
  have hq5 := hp5
  go_wp2_with (at_builtin; refine wpList_appendF rfl _ _ rfl _ (w4.heap.size) w5 _ rfl _ ([] ++ A) ([120], []) (by rfl) (by rfl) ho5 hq5.size (by simp only [List.length_nil, List.length_append, List.length_cons]; omega) ?_)
  intro v6 w6 ho6 hg6 _
  have hp6 := own_below ho5 hq5.size hg6
  have hq6 := hq5.trans hp6
  have hkc6 := hkc4.step hq6
  have hA9 := Lib.hid ((hA7.out.below hq6).mono hq6.size)
  clear hA7
  have hB10 := Lib.hid ((hB8.out.below hq6).mono hq6.size)
  clear hB8
  have hr6 : w6.ownsRow (w4.heap.size) 42 2 v6 (A ++ [([120], [])]).length (flds (A ++ [([120], [])])) := by simpa using ho6
  rw [← eqMh.out] at hr6
  have hMn := flds_here hr6
  obtain ⟨aoM, caM, rfl⟩ := hMn.shape
  have hM0 := Lib.hid hMn
  clear hMn ho6 hr6
  go_wp2_with fail
  refine (cAA w6 hA9.out).mono ?_
  rintro e w7 ⟨rfl, hb7⟩
  have hkc7 := hkc6.step hb7
  have hA11 := Lib.hid ((hA9.out.below hb7).mono hb7.size)
  clear hA9
  have hB12 := Lib.hid ((hB10.out.below hb7).mono hb7.size)
  clear hB10
  have hM13 := Lib.hid ((hM0.out.below hb7).mono hb7.size)
  clear hM0
  go_wp2_with fail
  refine (cBA w7 hB12.out hA11.out).mono ?_
  rintro e w8 ⟨rfl, hb8⟩
  have hkc8 := hkc7.step hb8
  have hA14 := Lib.hid ((hA11.out.below hb8).mono hb8.size)
  clear hA11
  have hB15 := Lib.hid ((hB12.out.below hb8).mono hb8.size)
  clear hB12
  have hM16 := Lib.hid ((hM13.out.below hb8).mono hb8.size)
  clear hM13
  go_wp2_with fail
  refine (cAM _ _ w8 hA14.out hM16.out).mono ?_
  rintro e w9 ⟨rfl, hb9⟩
  have hkc9 := hkc8.step hb9
  have hA17 := Lib.hid ((hA14.out.below hb9).mono hb9.size)
  clear hA14
  have hB18 := Lib.hid ((hB15.out.below hb9).mono hb9.size)
  clear hB15
  have hM19 := Lib.hid ((hM16.out.below hb9).mono hb9.size)
  clear hM16
  obtain ⟨ga, oa, rfl, hga, c1, c2⟩ := hA17.out.fa k x hx
  obtain ⟨gb, ob, rfl, hgb, c3, c4⟩ := hB18.out.fa k x hy
  have hE := eqFld_yes x
  obtain ⟨p, q⟩ := x
  dsimp only at c1 c2 c3 c4 hE
  clear hx hy hga hgb hsx sA sB cS cBA cAA cAM cFA cFB hA17 hB18 hM19
  go_wp2
  go_big_region
  go_wp2
  go_ret
  exact ⟨rfl, hkc9.drew.below⟩

theorem law_HeadSame (va : Value) (A : List Fld) (vb : Value) (B : List Fld) (i : Int) (_hi : (Lit.int .i64 i).wf = true) (w : World) (hG : Good w)
    (hA : Flds w.heap.size w va A) (_oA : va.oneCell' = true) (mA : A.length ≤ maxLen) (nA : ∀ f ∈ A, f.1.length ≤ maxLen ∧ f.2.length ≤ maxLen)
    (hB : Flds w.heap.size w vb B) (_oB : vb.oneCell' = true) (mB : B.length ≤ maxLen) (nB : ∀ f ∈ B, f.1.length ≤ maxLen ∧ f.2.length ≤ maxLen) :
    Calls Tryd.prog 9 #[va, vb, .int .i64 i] w fun e w' => e = .returned (.bool true) ∧ Below w.heap.size w w' := by
  obtain ⟨aoA, caA, rfl⟩ := hA.shape
  obtain ⟨aoB, caB, rfl⟩ := hB.shape
  have cFA := fun (w1 : World) h => Few13_any (.slice aoA A.length caA) A mA nA w1 h
  have cFB := fun (w1 : World) h => Few13_any (.slice aoB B.length caB) B mB nB w1 h
  cases hFA : few13 A <;> cases hFB : few13 B <;> (rw [hFA] at cFA; rw [hFB] at cFB)
  · exact same_few_c aoA caA A aoB caB B i w hG (Lib.hid hA) (Lib.hid hB) cFA cFB
  · exact same_few_a aoA caA A aoB caB B i w hG (Lib.hid hA) (Lib.hid hB) cFA cFB
  · exact same_few_b aoA caA A aoB caB B i w hG (Lib.hid hA) (Lib.hid hB) cFA cFB
  · cases hsm : (A == B)
    · exact same_no aoA caA A aoB caB B i w hG (Lib.hid hA) (Lib.hid hB) cFA cFB (few_sm hFA) (few_sm hFB) hsm
    · rcases Int.lt_or_le i 0 with hi | hi
      · exact same_neg aoA caA A aoB caB B i w hG (Lib.hid hA) (Lib.hid hB) cFA cFB (few_sm hFA) (few_sm hFB) hsm hi
      · obtain ⟨k, rfl⟩ : ∃ k : Nat, i = k := ⟨i.toNat, by omega⟩
        rcases Nat.lt_or_ge k A.length with hk | hk
        · exact same_in aoA caA A aoB caB B _ w hG (Lib.hid hA) (Lib.hid hB) cFA cFB (few_sm hFA) (few_sm hFB) hsm k rfl hk _ (List.getElem?_eq_getElem hk)
        · exact same_out aoA caA A aoB caB B _ w hG (Lib.hid hA) (Lib.hid hB) cFA cFB (few_sm hFA) (few_sm hFB) hsm k rfl hk

set_option maxHeartbeats 8000000 in
set_option maxRecDepth 100000 in
theorem get_few_a (aoA : Option Addr) (caA : Nat) (A : List Fld) (aoB : Option Addr) (caB : Nat) (B : List Fld) (n : List UInt8) (w : World) (hG : Good w) (hA0 : Hid (Flds w.heap.size w (.slice aoA A.length caA) A)) (hB0 : Hid (Flds w.heap.size w (.slice aoB B.length caB) B))
    (cFA : ∀ w1 : World, Flds w1.heap.size w1 (.slice aoA A.length caA) A → Calls Tryd.prog 11 #[.slice aoA A.length caA] w1 fun e w' => e = .returned (.bool false) ∧ Below w1.heap.size w1 w')
    (cFB : ∀ w1 : World, Flds w1.heap.size w1 (.slice aoB B.length caB) B → Calls Tryd.prog 11 #[.slice aoB B.length caB] w1 fun e w' => e = .returned (.bool true) ∧ Below w1.heap.size w1 w') :
    Calls Tryd.prog 7 #[.slice aoA A.length caA, .slice aoB B.length caB, .string ⟨n.toArray⟩] w fun e w' => e = .returned (.bool true) ∧ Below w.heap.size w w' := by
  have hk0 := Ok.refl hG
  go_enter Tryd.func7, Tryd.ntmps7
  go_wp2_with fail
  refine (awake13 w hk0.good).mono ?_
  rintro e w1 ⟨rfl, hb1⟩
  have hkc1 := hk0.step hb1
  have hA1 := Lib.hid ((hA0.out.below hb1).mono hb1.size)
  clear hA0
  have hB2 := Lib.hid ((hB0.out.below hb1).mono hb1.size)
  clear hB0
  go_wp2_with fail
  refine (cFA w1 hA1.out).mono ?_
  rintro e w2 ⟨rfl, hb2⟩
  have hkc2 := hkc1.step hb2
  have hA3 := Lib.hid ((hA1.out.below hb2).mono hb2.size)
  clear hA1
  have hB4 := Lib.hid ((hB2.out.below hb2).mono hb2.size)
  clear hB2
  go_wp2_with fail
  refine (cFB w2 hB4.out).mono ?_
  rintro e w3 ⟨rfl, hb3⟩
  have hkc3 := hkc2.step hb3
  have hA5 := Lib.hid ((hA3.out.below hb3).mono hb3.size)
  clear hA3
  have hB6 := Lib.hid ((hB4.out.below hb3).mono hb3.size)
  clear hB4
  go_wp2
  go_ret
  exact ⟨rfl, hkc3.below⟩

set_option maxHeartbeats 8000000 in
set_option maxRecDepth 100000 in
theorem get_few_b (aoA : Option Addr) (caA : Nat) (A : List Fld) (aoB : Option Addr) (caB : Nat) (B : List Fld) (n : List UInt8) (w : World) (hG : Good w) (hA0 : Hid (Flds w.heap.size w (.slice aoA A.length caA) A)) (hB0 : Hid (Flds w.heap.size w (.slice aoB B.length caB) B))
    (cFA : ∀ w1 : World, Flds w1.heap.size w1 (.slice aoA A.length caA) A → Calls Tryd.prog 11 #[.slice aoA A.length caA] w1 fun e w' => e = .returned (.bool true) ∧ Below w1.heap.size w1 w')
    (cFB : ∀ w1 : World, Flds w1.heap.size w1 (.slice aoB B.length caB) B → Calls Tryd.prog 11 #[.slice aoB B.length caB] w1 fun e w' => e = .returned (.bool false) ∧ Below w1.heap.size w1 w') :
    Calls Tryd.prog 7 #[.slice aoA A.length caA, .slice aoB B.length caB, .string ⟨n.toArray⟩] w fun e w' => e = .returned (.bool true) ∧ Below w.heap.size w w' := by
  have hk0 := Ok.refl hG
  go_enter Tryd.func7, Tryd.ntmps7
  go_wp2_with fail
  refine (awake13 w hk0.good).mono ?_
  rintro e w1 ⟨rfl, hb1⟩
  have hkc1 := hk0.step hb1
  have hA1 := Lib.hid ((hA0.out.below hb1).mono hb1.size)
  clear hA0
  have hB2 := Lib.hid ((hB0.out.below hb1).mono hb1.size)
  clear hB0
  go_wp2_with fail
  refine (cFA w1 hA1.out).mono ?_
  rintro e w2 ⟨rfl, hb2⟩
  have hkc2 := hkc1.step hb2
  have hA3 := Lib.hid ((hA1.out.below hb2).mono hb2.size)
  clear hA1
  have hB4 := Lib.hid ((hB2.out.below hb2).mono hb2.size)
  clear hB2
  go_wp2_with fail
  refine (cFB w2 hB4.out).mono ?_
  rintro e w3 ⟨rfl, hb3⟩
  have hkc3 := hkc2.step hb3
  have hA5 := Lib.hid ((hA3.out.below hb3).mono hb3.size)
  clear hA3
  have hB6 := Lib.hid ((hB4.out.below hb3).mono hb3.size)
  clear hB4
  go_wp2
  go_ret
  exact ⟨rfl, hkc3.below⟩

set_option maxHeartbeats 8000000 in
set_option maxRecDepth 100000 in
theorem get_few_c (aoA : Option Addr) (caA : Nat) (A : List Fld) (aoB : Option Addr) (caB : Nat) (B : List Fld) (n : List UInt8) (w : World) (hG : Good w) (hA0 : Hid (Flds w.heap.size w (.slice aoA A.length caA) A)) (hB0 : Hid (Flds w.heap.size w (.slice aoB B.length caB) B))
    (cFA : ∀ w1 : World, Flds w1.heap.size w1 (.slice aoA A.length caA) A → Calls Tryd.prog 11 #[.slice aoA A.length caA] w1 fun e w' => e = .returned (.bool false) ∧ Below w1.heap.size w1 w')
    (cFB : ∀ w1 : World, Flds w1.heap.size w1 (.slice aoB B.length caB) B → Calls Tryd.prog 11 #[.slice aoB B.length caB] w1 fun e w' => e = .returned (.bool false) ∧ Below w1.heap.size w1 w') :
    Calls Tryd.prog 7 #[.slice aoA A.length caA, .slice aoB B.length caB, .string ⟨n.toArray⟩] w fun e w' => e = .returned (.bool true) ∧ Below w.heap.size w w' := by
  have hk0 := Ok.refl hG
  go_enter Tryd.func7, Tryd.ntmps7
  go_wp2_with fail
  refine (awake13 w hk0.good).mono ?_
  rintro e w1 ⟨rfl, hb1⟩
  have hkc1 := hk0.step hb1
  have hA1 := Lib.hid ((hA0.out.below hb1).mono hb1.size)
  clear hA0
  have hB2 := Lib.hid ((hB0.out.below hb1).mono hb1.size)
  clear hB0
  go_wp2_with fail
  refine (cFA w1 hA1.out).mono ?_
  rintro e w2 ⟨rfl, hb2⟩
  have hkc2 := hkc1.step hb2
  have hA3 := Lib.hid ((hA1.out.below hb2).mono hb2.size)
  clear hA1
  have hB4 := Lib.hid ((hB2.out.below hb2).mono hb2.size)
  clear hB2
  go_wp2_with fail
  refine (cFB w2 hB4.out).mono ?_
  rintro e w3 ⟨rfl, hb3⟩
  have hkc3 := hkc2.step hb3
  have hA5 := Lib.hid ((hA3.out.below hb3).mono hb3.size)
  clear hA3
  have hB6 := Lib.hid ((hB4.out.below hb3).mono hb3.size)
  clear hB4
  go_wp2
  go_ret
  exact ⟨rfl, hkc3.below⟩

set_option maxHeartbeats 8000000 in
set_option maxRecDepth 100000 in
theorem get_long (aoA : Option Addr) (caA : Nat) (A : List Fld) (aoB : Option Addr) (caB : Nat) (B : List Fld) (n : List UInt8) (w : World) (hG : Good w) (hA0 : Hid (Flds w.heap.size w (.slice aoA A.length caA) A)) (hB0 : Hid (Flds w.heap.size w (.slice aoB B.length caB) B))
    (cFA : ∀ w1 : World, Flds w1.heap.size w1 (.slice aoA A.length caA) A → Calls Tryd.prog 11 #[.slice aoA A.length caA] w1 fun e w' => e = .returned (.bool true) ∧ Below w1.heap.size w1 w')
    (cFB : ∀ w1 : World, Flds w1.heap.size w1 (.slice aoB B.length caB) B → Calls Tryd.prog 11 #[.slice aoB B.length caB] w1 fun e w' => e = .returned (.bool true) ∧ Below w1.heap.size w1 w') (hn : 300 < n.length) :
    Calls Tryd.prog 7 #[.slice aoA A.length caA, .slice aoB B.length caB, .string ⟨n.toArray⟩] w fun e w' => e = .returned (.bool true) ∧ Below w.heap.size w w' := by
  have d0 : decide ((300 : Int) < (n.length : Int)) = true := decide_eq_true (by omega)
  have d1 : decide (300 < n.length) = true := decide_eq_true (by omega)
  clear hn
  have hk0 := Ok.refl hG
  go_enter Tryd.func7, Tryd.ntmps7
  go_wp2_with fail
  refine (awake13 w hk0.good).mono ?_
  rintro e w1 ⟨rfl, hb1⟩
  have hkc1 := hk0.step hb1
  have hA1 := Lib.hid ((hA0.out.below hb1).mono hb1.size)
  clear hA0
  have hB2 := Lib.hid ((hB0.out.below hb1).mono hb1.size)
  clear hB0
  go_wp2_with fail
  refine (cFA w1 hA1.out).mono ?_
  rintro e w2 ⟨rfl, hb2⟩
  have hkc2 := hkc1.step hb2
  have hA3 := Lib.hid ((hA1.out.below hb2).mono hb2.size)
  clear hA1
  have hB4 := Lib.hid ((hB2.out.below hb2).mono hb2.size)
  clear hB2
  go_wp2_with fail
  refine (cFB w2 hB4.out).mono ?_
  rintro e w3 ⟨rfl, hb3⟩
  have hkc3 := hkc2.step hb3
  have hA5 := Lib.hid ((hA3.out.below hb3).mono hb3.size)
  clear hA3
  have hB6 := Lib.hid ((hB4.out.below hb3).mono hb3.size)
  clear hB4
  go_wp2
  go_ret
  exact ⟨rfl, hkc3.below⟩

theorem isEmpty_app {α : Type} (a b : List α) : (a ++ b).isEmpty = (a.isEmpty && b.isEmpty) := by cases a <;> simp
theorem allB_append (n : List UInt8) (A B : List Fld) : allL n (A ++ B) = allL n A ++ allL n B := by unfold allL; rw [List.filter_append, List.map_append]
theorem getL_nil {n : List UInt8} {L : List Fld} (h : (allL n L).isEmpty = true) : getL n L = [] := by
  unfold getL; rw [List.isEmpty_iff.1 h]; rfl
theorem inter_app {α : Type} (sep : List α) : ∀ (A B : List (List α)), A ≠ [] → B ≠ [] → sep.intercalate (A ++ B) = sep.intercalate A ++ sep ++ sep.intercalate B
  | [], _, h, _ => absurd rfl h
  | [a], [], _, h => absurd rfl h
  | [a], b :: B, _, _ => by
    rw [List.singleton_append, inter_cons, inter_one, List.append_assoc]
  | a :: c :: A, B, _, hB => by
    rw [List.cons_append, List.cons_append, inter_cons, inter_cons, ← List.cons_append, inter_app sep (c :: A) B (by simp) hB]
    simp only [List.append_assoc]
theorem get_both {n : List UInt8} {A B : List Fld} (ha : (allL n A).isEmpty = false) (hb : (allL n B).isEmpty = false) : getL n (A ++ B) = getL n A ++ comma ++ getL n B := by
  unfold getL
  rw [allB_append, inter_app comma _ _ (by intro e; rw [e] at ha; cases ha) (by intro e; rw [e] at hb; cases hb)]
theorem get_left {n : List UInt8} {A B : List Fld} (h : (allL n A).isEmpty = true ∨ (allL n B).isEmpty = true) : getL n (A ++ B) = getL n A ++ getL n B := by
  unfold getL
  rw [allB_append]
  rcases h with h | h
  · rw [List.isEmpty_iff.1 h]; rfl
  · rw [List.isEmpty_iff.1 h]; simp [List.intercalate]

set_option maxHeartbeats 8000000 in
set_option maxRecDepth 100000 in
theorem get_true_true (aoA : Option Addr) (caA : Nat) (A : List Fld) (aoB : Option Addr) (caB : Nat) (B : List Fld) (n : List UInt8) (w : World) (hG : Good w) (hA0 : Hid (Flds w.heap.size w (.slice aoA A.length caA) A)) (hB0 : Hid (Flds w.heap.size w (.slice aoB B.length caB) B))
    (cFA : ∀ w1 : World, Flds w1.heap.size w1 (.slice aoA A.length caA) A → Calls Tryd.prog 11 #[.slice aoA A.length caA] w1 fun e w' => e = .returned (.bool true) ∧ Below w1.heap.size w1 w')
    (cFB : ∀ w1 : World, Flds w1.heap.size w1 (.slice aoB B.length caB) B → Calls Tryd.prog 11 #[.slice aoB B.length caB] w1 fun e w' => e = .returned (.bool true) ∧ Below w1.heap.size w1 w') (sA : SmF 60 A) (sB : SmF 60 B) (hn : n.length ≤ 300) (ha : (allL n A).isEmpty = false) (hb : (allL n B).isEmpty = false) :
    Calls Tryd.prog 7 #[.slice aoA A.length caA, .slice aoB B.length caB, .string ⟨n.toArray⟩] w fun e w' => e = .returned (.bool true) ∧ Below w.heap.size w w' := by
  have hla : A.length ≤ 60 := sA.1
  have hlb : B.length ≤ 60 := sB.1
  obtain ⟨M, eqM⟩ : ∃ M : List Fld, M = A ++ B := ⟨_, rfl⟩
  obtain ⟨TT, eqT⟩ : ∃ T : List (List UInt8), T = allL n A ++ allL n B := ⟨_, rfl⟩
  have sM : SmF 120 M := ⟨by rw [eqM, List.length_append]; omega, fun f hf => by
    rw [eqM] at hf
    rcases List.mem_append.1 hf with h | h
    · exact sA.2 f h
    · exact sB.2 f h⟩
  have cGA := fun w1 hA => c_Get (w := w1) sA (by decide) (ao := aoA) (cap := caA) hA (n := n) (by omega)
  have cGB := fun w1 hB => c_Get (w := w1) sB (by decide) (ao := aoB) (cap := caB) hB (n := n) (by omega)
  have cGM := fun ao ca w1 hM => c_Get (w := w1) sM (by decide) (ao := ao) (cap := ca) hM (n := n) (by omega)
  have hz : (⟨(getL n M).toArray⟩ : ByteArray) = (⟨(getL n A).toArray⟩ : ByteArray) ++ ⟨#[44, 32]⟩ ++ ⟨(getL n B).toArray⟩ := by
    apply toList_inj
    rw [mk_toList, eqM, get_both ha hb]
    simp [ByteArray.data_append, comma]
  have hi : (allL n M).isEmpty = false := by
    rw [eqM, allB_append, isEmpty_app, ha, hb]; rfl
  rw [hz, hi] at cGM
  rw [ha] at cGA
  rw [hb] at cGB
  have cAllM := fun ao ca w1 hM => c_All (w := w1) sM (by decide) (ao := ao) (cap := ca) hM (n := n) (by omega)
  rw [show allL n M = TT by rw [eqM, eqT, allB_append]] at cAllM
  have cAllA := fun w1 hA => c_All (w := w1) sA (by decide) (ao := aoA) (cap := caA) hA (n := n) (by omega)
  have cAllB := fun w1 hB => c_All (w := w1) sB (by decide) (ao := aoB) (cap := caB) hB (n := n) (by omega)
  have hTA : (allL n A).length ≤ 60 := Nat.le_trans (allL_len n A) hla
  have hTB : (allL n B).length ≤ 60 := Nat.le_trans (allL_len n B) hlb
  have cR := fun ao ca bo cb w1 hP hR => ref08_Same (.slice ao TT.length ca) (.slice bo TT.length cb) TT TT (by rw [eqT, List.length_append]; omega) (by rw [eqT, List.length_append]; omega) w1 hP hR
  rw [beq_self_eq_true] at cR
  have hX : (⟨(getL n A).toArray⟩ : ByteArray).size ≤ 1000002000000 := by rw [ba_len]; exact comma_le (by omega) (fun x hx => Nat.le_trans (allL_le (m := 300) sA.2 x hx) (by decide))
  have hY : (⟨(getL n B).toArray⟩ : ByteArray).size ≤ 1000002000000 := by rw [ba_len]; exact comma_le (by omega) (fun x hx => Nat.le_trans (allL_le (m := 300) sB.2 x hx) (by decide))
  have hp : decide ((0 : Int) < ((allL n A).length : Int)) = true := decide_eq_true (by have : (allL n A) ≠ [] := (fun e => by rw [e] at ha; cases ha); have := List.length_pos_iff.2 this; omega)
  have hpn : decide (0 < (allL n A).length) = true := decide_eq_true (by have : (allL n A) ≠ [] := (fun e => by rw [e] at ha; cases ha); exact List.length_pos_iff.2 this)
  clear hi hz ha hb sM sA sB
  have eqMh := Lib.hid eqM
  have eqTh := Lib.hid eqT
  clear eqM eqT
  generalize (⟨(getL n A).toArray⟩ : ByteArray) = X at *
  generalize (⟨(getL n B).toArray⟩ : ByteArray) = Y at *
  generalize allL n A = TA at *
  generalize allL n B = TB at *
  have d0 : decide ((300 : Int) < (n.length : Int)) = false := decide_eq_false (by omega)
  have d1 : decide (300 < n.length) = false := decide_eq_false (by omega)
  clear hn
  have hk0 := Ok.refl hG
  go_enter Tryd.func7, Tryd.ntmps7
  go_wp2_with fail
  refine (awake13 w hk0.good).mono ?_
  rintro e w1 ⟨rfl, hb1⟩
  have hkc1 := hk0.step hb1
  have hA1 := Lib.hid ((hA0.out.below hb1).mono hb1.size)
  clear hA0
  have hB2 := Lib.hid ((hB0.out.below hb1).mono hb1.size)
  clear hB0
  go_wp2_with fail
  refine (cFA w1 hA1.out).mono ?_
  rintro e w2 ⟨rfl, hb2⟩
  have hkc2 := hkc1.step hb2
  have hA3 := Lib.hid ((hA1.out.below hb2).mono hb2.size)
  clear hA1
  have hB4 := Lib.hid ((hB2.out.below hb2).mono hb2.size)
  clear hB2
  go_wp2_with fail
  refine (cFB w2 hB4.out).mono ?_
  rintro e w3 ⟨rfl, hb3⟩
  have hkc3 := hkc2.step hb3
  have hA5 := Lib.hid ((hA3.out.below hb3).mono hb3.size)
  clear hA3
  have hB6 := Lib.hid ((hB4.out.below hb3).mono hb3.size)
  clear hB4
  go_wp2_with (at_builtin; refine wpList_appendFs rfl _ _ rfl (w3.heap.size) w3 _ ([]) (A) _ (by rfl) (by rfl) hA5.out (World.ownsRow_nil _ _ _ _) (Nat.le_refl _) (by simp only [List.length_nil, List.length_append, List.length_cons]; omega) ?_)
  intro v4 w4 ho4 hp4
  have hq4 := hp4
  go_wp2_with (at_builtin; refine wpList_appendFs rfl _ _ rfl (w3.heap.size) w4 _ ([] ++ A) (B) _ (by rfl) (by rfl) ((hB6.out.below hq4).mono hq4.size) ho4 hq4.size (by simp only [List.length_nil, List.length_append, List.length_cons]; omega) ?_)
  intro v5 w5 ho5 hp5
  have hq5 := hq4.trans hp5
  have hkc5 := hkc3.step hq5
  have hA7 := Lib.hid ((hA5.out.below hq5).mono hq5.size)
  clear hA5
  have hB8 := Lib.hid ((hB6.out.below hq5).mono hq5.size)
  clear hB6
  have hr5 : w5.ownsRow (w3.heap.size) 42 2 v5 (A ++ B).length (flds (A ++ B)) := by simpa using ho5
  rw [← eqMh.out] at hr5
  have hMn := flds_here hr5
  obtain ⟨aoM, caM, rfl⟩ := hMn.shape
  have hM0 := Lib.hid hMn
  clear hMn ho5 hr5
  go_wp2_with fail
  refine (cGA w5 hA7.out).mono ?_
  rintro e w6 ⟨rfl, hb6⟩
  have hkc6 := hkc5.step hb6
  have hA9 := Lib.hid ((hA7.out.below hb6).mono hb6.size)
  clear hA7
  have hB10 := Lib.hid ((hB8.out.below hb6).mono hb6.size)
  clear hB8
  have hM11 := Lib.hid ((hM0.out.below hb6).mono hb6.size)
  clear hM0
  go_wp2_with fail
  refine (cGB w6 hB10.out).mono ?_
  rintro e w7 ⟨rfl, hb7⟩
  have hkc7 := hkc6.step hb7
  have hA12 := Lib.hid ((hA9.out.below hb7).mono hb7.size)
  clear hA9
  have hB13 := Lib.hid ((hB10.out.below hb7).mono hb7.size)
  clear hB10
  have hM14 := Lib.hid ((hM11.out.below hb7).mono hb7.size)
  clear hM11
  go_wp2_with fail
  refine (cGM _ _ w7 hM14.out).mono ?_
  rintro e w8 ⟨rfl, hb8⟩
  have hkc8 := hkc7.step hb8
  have hA15 := Lib.hid ((hA12.out.below hb8).mono hb8.size)
  clear hA12
  have hB16 := Lib.hid ((hB13.out.below hb8).mono hb8.size)
  clear hB13
  have hM17 := Lib.hid ((hM14.out.below hb8).mono hb8.size)
  clear hM14
  go_wp2_with fail
  refine (cAllM _ _ w8 hM17.out).mono ?_
  rintro e w9 ⟨v9, rfl, ho9, hb9⟩
  have hkc9 := hkc8.step hb9
  have hA18 := Lib.hid ((hA15.out.below hb9).mono hb9.size)
  clear hA15
  have hB19 := Lib.hid ((hB16.out.below hb9).mono hb9.size)
  clear hB16
  have hM20 := Lib.hid ((hM17.out.below hb9).mono hb9.size)
  clear hM17
  have hPn := (texts_own ho9 (Nat.le_refl _)).1
  obtain ⟨aoP, caP, rfl⟩ := hPn.shape
  have hP0 := Lib.hid hPn
  clear hPn ho9
  go_wp2_with fail
  refine (cAllA w9 hA18.out).mono ?_
  rintro e w10 ⟨v10, rfl, ho10, hb10⟩
  have hkc10 := hkc9.step hb10
  have hA21 := Lib.hid ((hA18.out.below hb10).mono hb10.size)
  clear hA18
  have hB22 := Lib.hid ((hB19.out.below hb10).mono hb10.size)
  clear hB19
  have hM23 := Lib.hid ((hM20.out.below hb10).mono hb10.size)
  clear hM20
  have hP24 := Lib.hid ((hP0.out.below hb10).mono hb10.size)
  clear hP0
  have hQn := (texts_own ho10 (Nat.le_refl _)).1
  obtain ⟨aoQ, caQ, rfl⟩ := hQn.shape
  have hQ0 := Lib.hid hQn
  clear hQn ho10
  go_wp2_with (at_builtin; refine wpList_appendTs rfl _ _ rfl (w10.heap.size) w10 _ [] TA _ (by rfl) (by rfl) hQ0.out (World.ownsRow_nil _ _ _ _) (Nat.le_refl _) (by simp only [List.length_nil, List.length_append]; omega) ?_)
  intro va wa hoa hpa
  go_wp2_with fail
  refine (cAllB wa ((hB22.out.below hpa).mono hpa.size)).mono ?_
  rintro e wb ⟨vb, rfl, hob, hbb⟩
  have hqb := hpa.trans (hbb.mono hpa.size)
  have hoa2 := row_same hoa (fun g _ hg => hbb.block g hg)
  have hT := (texts_own hob (Nat.le_refl _)).1
  obtain ⟨aoT, caT, rfl⟩ := hT.shape
  have hTh := Lib.hid hT
  clear hT hob hoa
  go_wp2_with (at_builtin; refine wpList_appendTs rfl _ _ rfl (w10.heap.size) wb _ ([] ++ TA) TB _ (by rfl) (by rfl) hTh.out hoa2 hqb.size (by simp only [List.length_nil, List.length_append]; omega) ?_)
  intro vc wc hoc hpc
  have hqc := hqb.trans hpc
  have hkR := hkc10.step hqc
  have hA25 := Lib.hid ((hA21.out.below hqc).mono hqc.size)
  clear hA21
  have hB26 := Lib.hid ((hB22.out.below hqc).mono hqc.size)
  clear hB22
  have hM27 := Lib.hid ((hM23.out.below hqc).mono hqc.size)
  clear hM23
  have hP28 := Lib.hid ((hP24.out.below hqc).mono hqc.size)
  clear hP24
  have hQ29 := Lib.hid ((hQ0.out.below hqc).mono hqc.size)
  clear hQ0
  have hrc : wc.ownsRow (w10.heap.size) 9 1 vc TT.length (strs TT) := by rw [eqTh.out]; simpa using hoc
  have hRn := (texts_own hrc (Nat.le_refl _)).1
  obtain ⟨aoR, caR, rfl⟩ := hRn.shape
  have hR0 := Lib.hid hRn
  clear hRn hoc hrc hoa2 hTh
  go_wp2_with fail
  refine (cR _ _ _ _ wc hP28.out hR0.out).mono ?_
  rintro e w11 ⟨rfl, hb11⟩
  have hkc11 := hkR.step hb11
  have hA30 := Lib.hid ((hA25.out.below hb11).mono hb11.size)
  clear hA25
  have hB31 := Lib.hid ((hB26.out.below hb11).mono hb11.size)
  clear hB26
  have hM32 := Lib.hid ((hM27.out.below hb11).mono hb11.size)
  clear hM27
  have hP33 := Lib.hid ((hP28.out.below hb11).mono hb11.size)
  clear hP28
  have hQ34 := Lib.hid ((hQ29.out.below hb11).mono hb11.size)
  clear hQ29
  have hR35 := Lib.hid ((hR0.out.below hb11).mono hb11.size)
  clear hR0
  clear hP33
  clear hR35
  clear hQ34
  go_wp2_with fail
  refine (cAllA w11 hA30.out).mono ?_
  rintro e w12 ⟨v12, rfl, ho12, hb12⟩
  have hkc12 := hkc11.step hb12
  have hA36 := Lib.hid ((hA30.out.below hb12).mono hb12.size)
  clear hA30
  have hB37 := Lib.hid ((hB31.out.below hb12).mono hb12.size)
  clear hB31
  have hM38 := Lib.hid ((hM32.out.below hb12).mono hb12.size)
  clear hM32
  have hQn := (texts_own ho12 (Nat.le_refl _)).1
  obtain ⟨aoQ, caQ, rfl⟩ := hQn.shape
  have hQ0 := Lib.hid hQn
  clear hQn ho12
  go_wp2
  go_ret
  exact ⟨rfl, hkc12.below⟩

set_option maxHeartbeats 8000000 in
set_option maxRecDepth 100000 in
theorem get_true_false (aoA : Option Addr) (caA : Nat) (A : List Fld) (aoB : Option Addr) (caB : Nat) (B : List Fld) (n : List UInt8) (w : World) (hG : Good w) (hA0 : Hid (Flds w.heap.size w (.slice aoA A.length caA) A)) (hB0 : Hid (Flds w.heap.size w (.slice aoB B.length caB) B))
    (cFA : ∀ w1 : World, Flds w1.heap.size w1 (.slice aoA A.length caA) A → Calls Tryd.prog 11 #[.slice aoA A.length caA] w1 fun e w' => e = .returned (.bool true) ∧ Below w1.heap.size w1 w')
    (cFB : ∀ w1 : World, Flds w1.heap.size w1 (.slice aoB B.length caB) B → Calls Tryd.prog 11 #[.slice aoB B.length caB] w1 fun e w' => e = .returned (.bool true) ∧ Below w1.heap.size w1 w') (sA : SmF 60 A) (sB : SmF 60 B) (hn : n.length ≤ 300) (ha : (allL n A).isEmpty = false) (hb : (allL n B).isEmpty = true) :
    Calls Tryd.prog 7 #[.slice aoA A.length caA, .slice aoB B.length caB, .string ⟨n.toArray⟩] w fun e w' => e = .returned (.bool true) ∧ Below w.heap.size w w' := by
  have hla : A.length ≤ 60 := sA.1
  have hlb : B.length ≤ 60 := sB.1
  obtain ⟨M, eqM⟩ : ∃ M : List Fld, M = A ++ B := ⟨_, rfl⟩
  obtain ⟨TT, eqT⟩ : ∃ T : List (List UInt8), T = allL n A ++ allL n B := ⟨_, rfl⟩
  have sM : SmF 120 M := ⟨by rw [eqM, List.length_append]; omega, fun f hf => by
    rw [eqM] at hf
    rcases List.mem_append.1 hf with h | h
    · exact sA.2 f h
    · exact sB.2 f h⟩
  have cGA := fun w1 hA => c_Get (w := w1) sA (by decide) (ao := aoA) (cap := caA) hA (n := n) (by omega)
  have cGB := fun w1 hB => c_Get (w := w1) sB (by decide) (ao := aoB) (cap := caB) hB (n := n) (by omega)
  have cGM := fun ao ca w1 hM => c_Get (w := w1) sM (by decide) (ao := ao) (cap := ca) hM (n := n) (by omega)
  have hz : (⟨(getL n M).toArray⟩ : ByteArray) = (⟨(getL n A).toArray⟩ : ByteArray) ++ ⟨(getL n B).toArray⟩ := by
    apply toList_inj
    rw [mk_toList, eqM, get_left (.inr hb)]
    simp [ByteArray.data_append, comma]
  have hi : (allL n M).isEmpty = false := by
    rw [eqM, allB_append, isEmpty_app, ha, hb]; rfl
  rw [hz, hi] at cGM
  rw [ha] at cGA
  rw [hb] at cGB
  have cAllM := fun ao ca w1 hM => c_All (w := w1) sM (by decide) (ao := ao) (cap := ca) hM (n := n) (by omega)
  rw [show allL n M = TT by rw [eqM, eqT, allB_append]] at cAllM
  have cAllA := fun w1 hA => c_All (w := w1) sA (by decide) (ao := aoA) (cap := caA) hA (n := n) (by omega)
  have cAllB := fun w1 hB => c_All (w := w1) sB (by decide) (ao := aoB) (cap := caB) hB (n := n) (by omega)
  have hTA : (allL n A).length ≤ 60 := Nat.le_trans (allL_len n A) hla
  have hTB : (allL n B).length ≤ 60 := Nat.le_trans (allL_len n B) hlb
  have cR := fun ao ca bo cb w1 hP hR => ref08_Same (.slice ao TT.length ca) (.slice bo TT.length cb) TT TT (by rw [eqT, List.length_append]; omega) (by rw [eqT, List.length_append]; omega) w1 hP hR
  rw [beq_self_eq_true] at cR
  have hX : (⟨(getL n A).toArray⟩ : ByteArray).size ≤ 1000002000000 := by rw [ba_len]; exact comma_le (by omega) (fun x hx => Nat.le_trans (allL_le (m := 300) sA.2 x hx) (by decide))
  have hY : (⟨(getL n B).toArray⟩ : ByteArray).size ≤ 1000002000000 := by rw [ba_len]; exact comma_le (by omega) (fun x hx => Nat.le_trans (allL_le (m := 300) sB.2 x hx) (by decide))
  have hp : decide ((0 : Int) < ((allL n A).length : Int)) = true := decide_eq_true (by have : (allL n A) ≠ [] := (fun e => by rw [e] at ha; cases ha); have := List.length_pos_iff.2 this; omega)
  have hpn : decide (0 < (allL n A).length) = true := decide_eq_true (by have : (allL n A) ≠ [] := (fun e => by rw [e] at ha; cases ha); exact List.length_pos_iff.2 this)
  clear hi hz ha hb sM sA sB
  have eqMh := Lib.hid eqM
  have eqTh := Lib.hid eqT
  clear eqM eqT
  generalize (⟨(getL n A).toArray⟩ : ByteArray) = X at *
  generalize (⟨(getL n B).toArray⟩ : ByteArray) = Y at *
  generalize allL n A = TA at *
  generalize allL n B = TB at *
  have d0 : decide ((300 : Int) < (n.length : Int)) = false := decide_eq_false (by omega)
  have d1 : decide (300 < n.length) = false := decide_eq_false (by omega)
  clear hn
  have hk0 := Ok.refl hG
  go_enter Tryd.func7, Tryd.ntmps7
  go_wp2_with fail
  refine (awake13 w hk0.good).mono ?_
  rintro e w1 ⟨rfl, hb1⟩
  have hkc1 := hk0.step hb1
  have hA1 := Lib.hid ((hA0.out.below hb1).mono hb1.size)
  clear hA0
  have hB2 := Lib.hid ((hB0.out.below hb1).mono hb1.size)
  clear hB0
  go_wp2_with fail
  refine (cFA w1 hA1.out).mono ?_
  rintro e w2 ⟨rfl, hb2⟩
  have hkc2 := hkc1.step hb2
  have hA3 := Lib.hid ((hA1.out.below hb2).mono hb2.size)
  clear hA1
  have hB4 := Lib.hid ((hB2.out.below hb2).mono hb2.size)
  clear hB2
  go_wp2_with fail
  refine (cFB w2 hB4.out).mono ?_
  rintro e w3 ⟨rfl, hb3⟩
  have hkc3 := hkc2.step hb3
  have hA5 := Lib.hid ((hA3.out.below hb3).mono hb3.size)
  clear hA3
  have hB6 := Lib.hid ((hB4.out.below hb3).mono hb3.size)
  clear hB4
  go_wp2_with (at_builtin; refine wpList_appendFs rfl _ _ rfl (w3.heap.size) w3 _ ([]) (A) _ (by rfl) (by rfl) hA5.out (World.ownsRow_nil _ _ _ _) (Nat.le_refl _) (by simp only [List.length_nil, List.length_append, List.length_cons]; omega) ?_)
  intro v4 w4 ho4 hp4
  have hq4 := hp4
  go_wp2_with (at_builtin; refine wpList_appendFs rfl _ _ rfl (w3.heap.size) w4 _ ([] ++ A) (B) _ (by rfl) (by rfl) ((hB6.out.below hq4).mono hq4.size) ho4 hq4.size (by simp only [List.length_nil, List.length_append, List.length_cons]; omega) ?_)
  intro v5 w5 ho5 hp5
  have hq5 := hq4.trans hp5
  have hkc5 := hkc3.step hq5
  have hA7 := Lib.hid ((hA5.out.below hq5).mono hq5.size)
  clear hA5
  have hB8 := Lib.hid ((hB6.out.below hq5).mono hq5.size)
  clear hB6
  have hr5 : w5.ownsRow (w3.heap.size) 42 2 v5 (A ++ B).length (flds (A ++ B)) := by simpa using ho5
  rw [← eqMh.out] at hr5
  have hMn := flds_here hr5
  obtain ⟨aoM, caM, rfl⟩ := hMn.shape
  have hM0 := Lib.hid hMn
  clear hMn ho5 hr5
  go_wp2_with fail
  refine (cGA w5 hA7.out).mono ?_
  rintro e w6 ⟨rfl, hb6⟩
  have hkc6 := hkc5.step hb6
  have hA9 := Lib.hid ((hA7.out.below hb6).mono hb6.size)
  clear hA7
  have hB10 := Lib.hid ((hB8.out.below hb6).mono hb6.size)
  clear hB8
  have hM11 := Lib.hid ((hM0.out.below hb6).mono hb6.size)
  clear hM0
  go_wp2_with fail
  refine (cGB w6 hB10.out).mono ?_
  rintro e w7 ⟨rfl, hb7⟩
  have hkc7 := hkc6.step hb7
  have hA12 := Lib.hid ((hA9.out.below hb7).mono hb7.size)
  clear hA9
  have hB13 := Lib.hid ((hB10.out.below hb7).mono hb7.size)
  clear hB10
  have hM14 := Lib.hid ((hM11.out.below hb7).mono hb7.size)
  clear hM11
  go_wp2_with fail
  refine (cGM _ _ w7 hM14.out).mono ?_
  rintro e w8 ⟨rfl, hb8⟩
  have hkc8 := hkc7.step hb8
  have hA15 := Lib.hid ((hA12.out.below hb8).mono hb8.size)
  clear hA12
  have hB16 := Lib.hid ((hB13.out.below hb8).mono hb8.size)
  clear hB13
  have hM17 := Lib.hid ((hM14.out.below hb8).mono hb8.size)
  clear hM14
  go_wp2_with fail
  refine (cAllM _ _ w8 hM17.out).mono ?_
  rintro e w9 ⟨v9, rfl, ho9, hb9⟩
  have hkc9 := hkc8.step hb9
  have hA18 := Lib.hid ((hA15.out.below hb9).mono hb9.size)
  clear hA15
  have hB19 := Lib.hid ((hB16.out.below hb9).mono hb9.size)
  clear hB16
  have hM20 := Lib.hid ((hM17.out.below hb9).mono hb9.size)
  clear hM17
  have hPn := (texts_own ho9 (Nat.le_refl _)).1
  obtain ⟨aoP, caP, rfl⟩ := hPn.shape
  have hP0 := Lib.hid hPn
  clear hPn ho9
  go_wp2_with fail
  refine (cAllA w9 hA18.out).mono ?_
  rintro e w10 ⟨v10, rfl, ho10, hb10⟩
  have hkc10 := hkc9.step hb10
  have hA21 := Lib.hid ((hA18.out.below hb10).mono hb10.size)
  clear hA18
  have hB22 := Lib.hid ((hB19.out.below hb10).mono hb10.size)
  clear hB19
  have hM23 := Lib.hid ((hM20.out.below hb10).mono hb10.size)
  clear hM20
  have hP24 := Lib.hid ((hP0.out.below hb10).mono hb10.size)
  clear hP0
  have hQn := (texts_own ho10 (Nat.le_refl _)).1
  obtain ⟨aoQ, caQ, rfl⟩ := hQn.shape
  have hQ0 := Lib.hid hQn
  clear hQn ho10
  go_wp2_with (at_builtin; refine wpList_appendTs rfl _ _ rfl (w10.heap.size) w10 _ [] TA _ (by rfl) (by rfl) hQ0.out (World.ownsRow_nil _ _ _ _) (Nat.le_refl _) (by simp only [List.length_nil, List.length_append]; omega) ?_)
  intro va wa hoa hpa
  go_wp2_with fail
  refine (cAllB wa ((hB22.out.below hpa).mono hpa.size)).mono ?_
  rintro e wb ⟨vb, rfl, hob, hbb⟩
  have hqb := hpa.trans (hbb.mono hpa.size)
  have hoa2 := row_same hoa (fun g _ hg => hbb.block g hg)
  have hT := (texts_own hob (Nat.le_refl _)).1
  obtain ⟨aoT, caT, rfl⟩ := hT.shape
  have hTh := Lib.hid hT
  clear hT hob hoa
  go_wp2_with (at_builtin; refine wpList_appendTs rfl _ _ rfl (w10.heap.size) wb _ ([] ++ TA) TB _ (by rfl) (by rfl) hTh.out hoa2 hqb.size (by simp only [List.length_nil, List.length_append]; omega) ?_)
  intro vc wc hoc hpc
  have hqc := hqb.trans hpc
  have hkR := hkc10.step hqc
  have hA25 := Lib.hid ((hA21.out.below hqc).mono hqc.size)
  clear hA21
  have hB26 := Lib.hid ((hB22.out.below hqc).mono hqc.size)
  clear hB22
  have hM27 := Lib.hid ((hM23.out.below hqc).mono hqc.size)
  clear hM23
  have hP28 := Lib.hid ((hP24.out.below hqc).mono hqc.size)
  clear hP24
  have hQ29 := Lib.hid ((hQ0.out.below hqc).mono hqc.size)
  clear hQ0
  have hrc : wc.ownsRow (w10.heap.size) 9 1 vc TT.length (strs TT) := by rw [eqTh.out]; simpa using hoc
  have hRn := (texts_own hrc (Nat.le_refl _)).1
  obtain ⟨aoR, caR, rfl⟩ := hRn.shape
  have hR0 := Lib.hid hRn
  clear hRn hoc hrc hoa2 hTh
  go_wp2_with fail
  refine (cR _ _ _ _ wc hP28.out hR0.out).mono ?_
  rintro e w11 ⟨rfl, hb11⟩
  have hkc11 := hkR.step hb11
  have hA30 := Lib.hid ((hA25.out.below hb11).mono hb11.size)
  clear hA25
  have hB31 := Lib.hid ((hB26.out.below hb11).mono hb11.size)
  clear hB26
  have hM32 := Lib.hid ((hM27.out.below hb11).mono hb11.size)
  clear hM27
  have hP33 := Lib.hid ((hP28.out.below hb11).mono hb11.size)
  clear hP28
  have hQ34 := Lib.hid ((hQ29.out.below hb11).mono hb11.size)
  clear hQ29
  have hR35 := Lib.hid ((hR0.out.below hb11).mono hb11.size)
  clear hR0
  clear hP33
  clear hR35
  clear hQ34
  go_wp2_with fail
  refine (cAllA w11 hA30.out).mono ?_
  rintro e w12 ⟨v12, rfl, ho12, hb12⟩
  have hkc12 := hkc11.step hb12
  have hA36 := Lib.hid ((hA30.out.below hb12).mono hb12.size)
  clear hA30
  have hB37 := Lib.hid ((hB31.out.below hb12).mono hb12.size)
  clear hB31
  have hM38 := Lib.hid ((hM32.out.below hb12).mono hb12.size)
  clear hM32
  have hQn := (texts_own ho12 (Nat.le_refl _)).1
  obtain ⟨aoQ, caQ, rfl⟩ := hQn.shape
  have hQ0 := Lib.hid hQn
  clear hQn ho12
  go_wp2
  go_ret
  exact ⟨rfl, hkc12.below⟩

set_option maxHeartbeats 8000000 in
set_option maxRecDepth 100000 in
theorem get_false_true (aoA : Option Addr) (caA : Nat) (A : List Fld) (aoB : Option Addr) (caB : Nat) (B : List Fld) (n : List UInt8) (w : World) (hG : Good w) (hA0 : Hid (Flds w.heap.size w (.slice aoA A.length caA) A)) (hB0 : Hid (Flds w.heap.size w (.slice aoB B.length caB) B))
    (cFA : ∀ w1 : World, Flds w1.heap.size w1 (.slice aoA A.length caA) A → Calls Tryd.prog 11 #[.slice aoA A.length caA] w1 fun e w' => e = .returned (.bool true) ∧ Below w1.heap.size w1 w')
    (cFB : ∀ w1 : World, Flds w1.heap.size w1 (.slice aoB B.length caB) B → Calls Tryd.prog 11 #[.slice aoB B.length caB] w1 fun e w' => e = .returned (.bool true) ∧ Below w1.heap.size w1 w') (sA : SmF 60 A) (sB : SmF 60 B) (hn : n.length ≤ 300) (ha : (allL n A).isEmpty = true) (hb : (allL n B).isEmpty = false) :
    Calls Tryd.prog 7 #[.slice aoA A.length caA, .slice aoB B.length caB, .string ⟨n.toArray⟩] w fun e w' => e = .returned (.bool true) ∧ Below w.heap.size w w' := by
  have hla : A.length ≤ 60 := sA.1
  have hlb : B.length ≤ 60 := sB.1
  obtain ⟨M, eqM⟩ : ∃ M : List Fld, M = A ++ B := ⟨_, rfl⟩
  obtain ⟨TT, eqT⟩ : ∃ T : List (List UInt8), T = allL n A ++ allL n B := ⟨_, rfl⟩
  have sM : SmF 120 M := ⟨by rw [eqM, List.length_append]; omega, fun f hf => by
    rw [eqM] at hf
    rcases List.mem_append.1 hf with h | h
    · exact sA.2 f h
    · exact sB.2 f h⟩
  have cGA := fun w1 hA => c_Get (w := w1) sA (by decide) (ao := aoA) (cap := caA) hA (n := n) (by omega)
  have cGB := fun w1 hB => c_Get (w := w1) sB (by decide) (ao := aoB) (cap := caB) hB (n := n) (by omega)
  have cGM := fun ao ca w1 hM => c_Get (w := w1) sM (by decide) (ao := ao) (cap := ca) hM (n := n) (by omega)
  have hz : (⟨(getL n M).toArray⟩ : ByteArray) = (⟨(getL n A).toArray⟩ : ByteArray) ++ ⟨(getL n B).toArray⟩ := by
    apply toList_inj
    rw [mk_toList, eqM, get_left (.inl ha)]
    simp [ByteArray.data_append, comma]
  have hi : (allL n M).isEmpty = false := by
    rw [eqM, allB_append, isEmpty_app, ha, hb]; rfl
  rw [hz, hi] at cGM
  rw [ha] at cGA
  rw [hb] at cGB
  have cAllM := fun ao ca w1 hM => c_All (w := w1) sM (by decide) (ao := ao) (cap := ca) hM (n := n) (by omega)
  rw [show allL n M = TT by rw [eqM, eqT, allB_append]] at cAllM
  have cAllA := fun w1 hA => c_All (w := w1) sA (by decide) (ao := aoA) (cap := caA) hA (n := n) (by omega)
  have cAllB := fun w1 hB => c_All (w := w1) sB (by decide) (ao := aoB) (cap := caB) hB (n := n) (by omega)
  have hTA : (allL n A).length ≤ 60 := Nat.le_trans (allL_len n A) hla
  have hTB : (allL n B).length ≤ 60 := Nat.le_trans (allL_len n B) hlb
  have cR := fun ao ca bo cb w1 hP hR => ref08_Same (.slice ao TT.length ca) (.slice bo TT.length cb) TT TT (by rw [eqT, List.length_append]; omega) (by rw [eqT, List.length_append]; omega) w1 hP hR
  rw [beq_self_eq_true] at cR
  have hX : (⟨(getL n A).toArray⟩ : ByteArray).size ≤ 1000002000000 := by rw [ba_len]; exact comma_le (by omega) (fun x hx => Nat.le_trans (allL_le (m := 300) sA.2 x hx) (by decide))
  have hY : (⟨(getL n B).toArray⟩ : ByteArray).size ≤ 1000002000000 := by rw [ba_len]; exact comma_le (by omega) (fun x hx => Nat.le_trans (allL_le (m := 300) sB.2 x hx) (by decide))
  have hXe : (⟨(getL n A).toArray⟩ : ByteArray).toList.isEmpty = true := by rw [ba_toList, mk_toList, getL_nil ha]; rfl
  have hp : decide ((0 : Int) < ((allL n A).length : Int)) = false := decide_eq_false (by rw [List.isEmpty_iff.1 ha]; decide)
  have hpn : decide (0 < (allL n A).length) = false := decide_eq_false (by rw [List.isEmpty_iff.1 ha]; decide)
  clear hi hz ha hb sM sA sB
  have eqMh := Lib.hid eqM
  have eqTh := Lib.hid eqT
  clear eqM eqT
  generalize (⟨(getL n A).toArray⟩ : ByteArray) = X at *
  generalize (⟨(getL n B).toArray⟩ : ByteArray) = Y at *
  generalize allL n A = TA at *
  generalize allL n B = TB at *
  have d0 : decide ((300 : Int) < (n.length : Int)) = false := decide_eq_false (by omega)
  have d1 : decide (300 < n.length) = false := decide_eq_false (by omega)
  clear hn
  have hk0 := Ok.refl hG
  go_enter Tryd.func7, Tryd.ntmps7
  go_wp2_with fail
  refine (awake13 w hk0.good).mono ?_
  rintro e w1 ⟨rfl, hb1⟩
  have hkc1 := hk0.step hb1
  have hA1 := Lib.hid ((hA0.out.below hb1).mono hb1.size)
  clear hA0
  have hB2 := Lib.hid ((hB0.out.below hb1).mono hb1.size)
  clear hB0
  go_wp2_with fail
  refine (cFA w1 hA1.out).mono ?_
  rintro e w2 ⟨rfl, hb2⟩
  have hkc2 := hkc1.step hb2
  have hA3 := Lib.hid ((hA1.out.below hb2).mono hb2.size)
  clear hA1
  have hB4 := Lib.hid ((hB2.out.below hb2).mono hb2.size)
  clear hB2
  go_wp2_with fail
  refine (cFB w2 hB4.out).mono ?_
  rintro e w3 ⟨rfl, hb3⟩
  have hkc3 := hkc2.step hb3
  have hA5 := Lib.hid ((hA3.out.below hb3).mono hb3.size)
  clear hA3
  have hB6 := Lib.hid ((hB4.out.below hb3).mono hb3.size)
  clear hB4
  go_wp2_with (at_builtin; refine wpList_appendFs rfl _ _ rfl (w3.heap.size) w3 _ ([]) (A) _ (by rfl) (by rfl) hA5.out (World.ownsRow_nil _ _ _ _) (Nat.le_refl _) (by simp only [List.length_nil, List.length_append, List.length_cons]; omega) ?_)
  intro v4 w4 ho4 hp4
  have hq4 := hp4
  go_wp2_with (at_builtin; refine wpList_appendFs rfl _ _ rfl (w3.heap.size) w4 _ ([] ++ A) (B) _ (by rfl) (by rfl) ((hB6.out.below hq4).mono hq4.size) ho4 hq4.size (by simp only [List.length_nil, List.length_append, List.length_cons]; omega) ?_)
  intro v5 w5 ho5 hp5
  have hq5 := hq4.trans hp5
  have hkc5 := hkc3.step hq5
  have hA7 := Lib.hid ((hA5.out.below hq5).mono hq5.size)
  clear hA5
  have hB8 := Lib.hid ((hB6.out.below hq5).mono hq5.size)
  clear hB6
  have hr5 : w5.ownsRow (w3.heap.size) 42 2 v5 (A ++ B).length (flds (A ++ B)) := by simpa using ho5
  rw [← eqMh.out] at hr5
  have hMn := flds_here hr5
  obtain ⟨aoM, caM, rfl⟩ := hMn.shape
  have hM0 := Lib.hid hMn
  clear hMn ho5 hr5
  go_wp2_with fail
  refine (cGA w5 hA7.out).mono ?_
  rintro e w6 ⟨rfl, hb6⟩
  have hkc6 := hkc5.step hb6
  have hA9 := Lib.hid ((hA7.out.below hb6).mono hb6.size)
  clear hA7
  have hB10 := Lib.hid ((hB8.out.below hb6).mono hb6.size)
  clear hB8
  have hM11 := Lib.hid ((hM0.out.below hb6).mono hb6.size)
  clear hM0
  go_wp2_with fail
  refine (cGB w6 hB10.out).mono ?_
  rintro e w7 ⟨rfl, hb7⟩
  have hkc7 := hkc6.step hb7
  have hA12 := Lib.hid ((hA9.out.below hb7).mono hb7.size)
  clear hA9
  have hB13 := Lib.hid ((hB10.out.below hb7).mono hb7.size)
  clear hB10
  have hM14 := Lib.hid ((hM11.out.below hb7).mono hb7.size)
  clear hM11
  go_wp2_with fail
  refine (cGM _ _ w7 hM14.out).mono ?_
  rintro e w8 ⟨rfl, hb8⟩
  have hkc8 := hkc7.step hb8
  have hA15 := Lib.hid ((hA12.out.below hb8).mono hb8.size)
  clear hA12
  have hB16 := Lib.hid ((hB13.out.below hb8).mono hb8.size)
  clear hB13
  have hM17 := Lib.hid ((hM14.out.below hb8).mono hb8.size)
  clear hM14
  go_wp2_with fail
  refine (cAllM _ _ w8 hM17.out).mono ?_
  rintro e w9 ⟨v9, rfl, ho9, hb9⟩
  have hkc9 := hkc8.step hb9
  have hA18 := Lib.hid ((hA15.out.below hb9).mono hb9.size)
  clear hA15
  have hB19 := Lib.hid ((hB16.out.below hb9).mono hb9.size)
  clear hB16
  have hM20 := Lib.hid ((hM17.out.below hb9).mono hb9.size)
  clear hM17
  have hPn := (texts_own ho9 (Nat.le_refl _)).1
  obtain ⟨aoP, caP, rfl⟩ := hPn.shape
  have hP0 := Lib.hid hPn
  clear hPn ho9
  go_wp2_with fail
  refine (cAllA w9 hA18.out).mono ?_
  rintro e w10 ⟨v10, rfl, ho10, hb10⟩
  have hkc10 := hkc9.step hb10
  have hA21 := Lib.hid ((hA18.out.below hb10).mono hb10.size)
  clear hA18
  have hB22 := Lib.hid ((hB19.out.below hb10).mono hb10.size)
  clear hB19
  have hM23 := Lib.hid ((hM20.out.below hb10).mono hb10.size)
  clear hM20
  have hP24 := Lib.hid ((hP0.out.below hb10).mono hb10.size)
  clear hP0
  have hQn := (texts_own ho10 (Nat.le_refl _)).1
  obtain ⟨aoQ, caQ, rfl⟩ := hQn.shape
  have hQ0 := Lib.hid hQn
  clear hQn ho10
  go_wp2_with (at_builtin; refine wpList_appendTs rfl _ _ rfl (w10.heap.size) w10 _ [] TA _ (by rfl) (by rfl) hQ0.out (World.ownsRow_nil _ _ _ _) (Nat.le_refl _) (by simp only [List.length_nil, List.length_append]; omega) ?_)
  intro va wa hoa hpa
  go_wp2_with fail
  refine (cAllB wa ((hB22.out.below hpa).mono hpa.size)).mono ?_
  rintro e wb ⟨vb, rfl, hob, hbb⟩
  have hqb := hpa.trans (hbb.mono hpa.size)
  have hoa2 := row_same hoa (fun g _ hg => hbb.block g hg)
  have hT := (texts_own hob (Nat.le_refl _)).1
  obtain ⟨aoT, caT, rfl⟩ := hT.shape
  have hTh := Lib.hid hT
  clear hT hob hoa
  go_wp2_with (at_builtin; refine wpList_appendTs rfl _ _ rfl (w10.heap.size) wb _ ([] ++ TA) TB _ (by rfl) (by rfl) hTh.out hoa2 hqb.size (by simp only [List.length_nil, List.length_append]; omega) ?_)
  intro vc wc hoc hpc
  have hqc := hqb.trans hpc
  have hkR := hkc10.step hqc
  have hA25 := Lib.hid ((hA21.out.below hqc).mono hqc.size)
  clear hA21
  have hB26 := Lib.hid ((hB22.out.below hqc).mono hqc.size)
  clear hB22
  have hM27 := Lib.hid ((hM23.out.below hqc).mono hqc.size)
  clear hM23
  have hP28 := Lib.hid ((hP24.out.below hqc).mono hqc.size)
  clear hP24
  have hQ29 := Lib.hid ((hQ0.out.below hqc).mono hqc.size)
  clear hQ0
  have hrc : wc.ownsRow (w10.heap.size) 9 1 vc TT.length (strs TT) := by rw [eqTh.out]; simpa using hoc
  have hRn := (texts_own hrc (Nat.le_refl _)).1
  obtain ⟨aoR, caR, rfl⟩ := hRn.shape
  have hR0 := Lib.hid hRn
  clear hRn hoc hrc hoa2 hTh
  go_wp2_with fail
  refine (cR _ _ _ _ wc hP28.out hR0.out).mono ?_
  rintro e w11 ⟨rfl, hb11⟩
  have hkc11 := hkR.step hb11
  have hA30 := Lib.hid ((hA25.out.below hb11).mono hb11.size)
  clear hA25
  have hB31 := Lib.hid ((hB26.out.below hb11).mono hb11.size)
  clear hB26
  have hM32 := Lib.hid ((hM27.out.below hb11).mono hb11.size)
  clear hM27
  have hP33 := Lib.hid ((hP28.out.below hb11).mono hb11.size)
  clear hP28
  have hQ34 := Lib.hid ((hQ29.out.below hb11).mono hb11.size)
  clear hQ29
  have hR35 := Lib.hid ((hR0.out.below hb11).mono hb11.size)
  clear hR0
  clear hP33
  clear hR35
  clear hQ34
  go_wp2_with fail
  refine (cAllA w11 hA30.out).mono ?_
  rintro e w12 ⟨v12, rfl, ho12, hb12⟩
  have hkc12 := hkc11.step hb12
  have hA36 := Lib.hid ((hA30.out.below hb12).mono hb12.size)
  clear hA30
  have hB37 := Lib.hid ((hB31.out.below hb12).mono hb12.size)
  clear hB31
  have hM38 := Lib.hid ((hM32.out.below hb12).mono hb12.size)
  clear hM32
  have hQn := (texts_own ho12 (Nat.le_refl _)).1
  obtain ⟨aoQ, caQ, rfl⟩ := hQn.shape
  have hQ0 := Lib.hid hQn
  clear hQn ho12
  go_wp2
  go_ret
  exact ⟨rfl, hkc12.below⟩

set_option maxHeartbeats 8000000 in
set_option maxRecDepth 100000 in
theorem get_false_false (aoA : Option Addr) (caA : Nat) (A : List Fld) (aoB : Option Addr) (caB : Nat) (B : List Fld) (n : List UInt8) (w : World) (hG : Good w) (hA0 : Hid (Flds w.heap.size w (.slice aoA A.length caA) A)) (hB0 : Hid (Flds w.heap.size w (.slice aoB B.length caB) B))
    (cFA : ∀ w1 : World, Flds w1.heap.size w1 (.slice aoA A.length caA) A → Calls Tryd.prog 11 #[.slice aoA A.length caA] w1 fun e w' => e = .returned (.bool true) ∧ Below w1.heap.size w1 w')
    (cFB : ∀ w1 : World, Flds w1.heap.size w1 (.slice aoB B.length caB) B → Calls Tryd.prog 11 #[.slice aoB B.length caB] w1 fun e w' => e = .returned (.bool true) ∧ Below w1.heap.size w1 w') (sA : SmF 60 A) (sB : SmF 60 B) (hn : n.length ≤ 300) (ha : (allL n A).isEmpty = true) (hb : (allL n B).isEmpty = true) :
    Calls Tryd.prog 7 #[.slice aoA A.length caA, .slice aoB B.length caB, .string ⟨n.toArray⟩] w fun e w' => e = .returned (.bool true) ∧ Below w.heap.size w w' := by
  have hla : A.length ≤ 60 := sA.1
  have hlb : B.length ≤ 60 := sB.1
  obtain ⟨M, eqM⟩ : ∃ M : List Fld, M = A ++ B := ⟨_, rfl⟩
  obtain ⟨TT, eqT⟩ : ∃ T : List (List UInt8), T = allL n A ++ allL n B := ⟨_, rfl⟩
  have sM : SmF 120 M := ⟨by rw [eqM, List.length_append]; omega, fun f hf => by
    rw [eqM] at hf
    rcases List.mem_append.1 hf with h | h
    · exact sA.2 f h
    · exact sB.2 f h⟩
  have cGA := fun w1 hA => c_Get (w := w1) sA (by decide) (ao := aoA) (cap := caA) hA (n := n) (by omega)
  have cGB := fun w1 hB => c_Get (w := w1) sB (by decide) (ao := aoB) (cap := caB) hB (n := n) (by omega)
  have cGM := fun ao ca w1 hM => c_Get (w := w1) sM (by decide) (ao := ao) (cap := ca) hM (n := n) (by omega)
  have hz : (⟨(getL n M).toArray⟩ : ByteArray) = (⟨(getL n A).toArray⟩ : ByteArray) ++ ⟨(getL n B).toArray⟩ := by
    apply toList_inj
    rw [mk_toList, eqM, get_left (.inl ha)]
    simp [ByteArray.data_append, comma]
  have hi : (allL n M).isEmpty = true := by
    rw [eqM, allB_append, isEmpty_app, ha, hb]; rfl
  rw [hz, hi] at cGM
  rw [ha] at cGA
  rw [hb] at cGB
  have cAllM := fun ao ca w1 hM => c_All (w := w1) sM (by decide) (ao := ao) (cap := ca) hM (n := n) (by omega)
  rw [show allL n M = TT by rw [eqM, eqT, allB_append]] at cAllM
  have cAllA := fun w1 hA => c_All (w := w1) sA (by decide) (ao := aoA) (cap := caA) hA (n := n) (by omega)
  have cAllB := fun w1 hB => c_All (w := w1) sB (by decide) (ao := aoB) (cap := caB) hB (n := n) (by omega)
  have hTA : (allL n A).length ≤ 60 := Nat.le_trans (allL_len n A) hla
  have hTB : (allL n B).length ≤ 60 := Nat.le_trans (allL_len n B) hlb
  have cR := fun ao ca bo cb w1 hP hR => ref08_Same (.slice ao TT.length ca) (.slice bo TT.length cb) TT TT (by rw [eqT, List.length_append]; omega) (by rw [eqT, List.length_append]; omega) w1 hP hR
  rw [beq_self_eq_true] at cR
  have hX : (⟨(getL n A).toArray⟩ : ByteArray).size ≤ 1000002000000 := by rw [ba_len]; exact comma_le (by omega) (fun x hx => Nat.le_trans (allL_le (m := 300) sA.2 x hx) (by decide))
  have hY : (⟨(getL n B).toArray⟩ : ByteArray).size ≤ 1000002000000 := by rw [ba_len]; exact comma_le (by omega) (fun x hx => Nat.le_trans (allL_le (m := 300) sB.2 x hx) (by decide))
  have hXe : (⟨(getL n A).toArray⟩ : ByteArray).toList.isEmpty = true := by rw [ba_toList, mk_toList, getL_nil ha]; rfl
  have hp : decide ((0 : Int) < ((allL n A).length : Int)) = false := decide_eq_false (by rw [List.isEmpty_iff.1 ha]; decide)
  have hpn : decide (0 < (allL n A).length) = false := decide_eq_false (by rw [List.isEmpty_iff.1 ha]; decide)
  clear hi hz ha hb sM sA sB
  have eqMh := Lib.hid eqM
  have eqTh := Lib.hid eqT
  clear eqM eqT
  generalize (⟨(getL n A).toArray⟩ : ByteArray) = X at *
  generalize (⟨(getL n B).toArray⟩ : ByteArray) = Y at *
  generalize allL n A = TA at *
  generalize allL n B = TB at *
  have d0 : decide ((300 : Int) < (n.length : Int)) = false := decide_eq_false (by omega)
  have d1 : decide (300 < n.length) = false := decide_eq_false (by omega)
  clear hn
  have hk0 := Ok.refl hG
  go_enter Tryd.func7, Tryd.ntmps7
  go_wp2_with fail
  refine (awake13 w hk0.good).mono ?_
  rintro e w1 ⟨rfl, hb1⟩
  have hkc1 := hk0.step hb1
  have hA1 := Lib.hid ((hA0.out.below hb1).mono hb1.size)
  clear hA0
  have hB2 := Lib.hid ((hB0.out.below hb1).mono hb1.size)
  clear hB0
  go_wp2_with fail
  refine (cFA w1 hA1.out).mono ?_
  rintro e w2 ⟨rfl, hb2⟩
  have hkc2 := hkc1.step hb2
  have hA3 := Lib.hid ((hA1.out.below hb2).mono hb2.size)
  clear hA1
  have hB4 := Lib.hid ((hB2.out.below hb2).mono hb2.size)
  clear hB2
  go_wp2_with fail
  refine (cFB w2 hB4.out).mono ?_
  rintro e w3 ⟨rfl, hb3⟩
  have hkc3 := hkc2.step hb3
  have hA5 := Lib.hid ((hA3.out.below hb3).mono hb3.size)
  clear hA3
  have hB6 := Lib.hid ((hB4.out.below hb3).mono hb3.size)
  clear hB4
  go_wp2_with (at_builtin; refine wpList_appendFs rfl _ _ rfl (w3.heap.size) w3 _ ([]) (A) _ (by rfl) (by rfl) hA5.out (World.ownsRow_nil _ _ _ _) (Nat.le_refl _) (by simp only [List.length_nil, List.length_append, List.length_cons]; omega) ?_)
  intro v4 w4 ho4 hp4
  have hq4 := hp4
  go_wp2_with (at_builtin; refine wpList_appendFs rfl _ _ rfl (w3.heap.size) w4 _ ([] ++ A) (B) _ (by rfl) (by rfl) ((hB6.out.below hq4).mono hq4.size) ho4 hq4.size (by simp only [List.length_nil, List.length_append, List.length_cons]; omega) ?_)
  intro v5 w5 ho5 hp5
  have hq5 := hq4.trans hp5
  have hkc5 := hkc3.step hq5
  have hA7 := Lib.hid ((hA5.out.below hq5).mono hq5.size)
  clear hA5
  have hB8 := Lib.hid ((hB6.out.below hq5).mono hq5.size)
  clear hB6
  have hr5 : w5.ownsRow (w3.heap.size) 42 2 v5 (A ++ B).length (flds (A ++ B)) := by simpa using ho5
  rw [← eqMh.out] at hr5
  have hMn := flds_here hr5
  obtain ⟨aoM, caM, rfl⟩ := hMn.shape
  have hM0 := Lib.hid hMn
  clear hMn ho5 hr5
  go_wp2_with fail
  refine (cGA w5 hA7.out).mono ?_
  rintro e w6 ⟨rfl, hb6⟩
  have hkc6 := hkc5.step hb6
  have hA9 := Lib.hid ((hA7.out.below hb6).mono hb6.size)
  clear hA7
  have hB10 := Lib.hid ((hB8.out.below hb6).mono hb6.size)
  clear hB8
  have hM11 := Lib.hid ((hM0.out.below hb6).mono hb6.size)
  clear hM0
  go_wp2_with fail
  refine (cGB w6 hB10.out).mono ?_
  rintro e w7 ⟨rfl, hb7⟩
  have hkc7 := hkc6.step hb7
  have hA12 := Lib.hid ((hA9.out.below hb7).mono hb7.size)
  clear hA9
  have hB13 := Lib.hid ((hB10.out.below hb7).mono hb7.size)
  clear hB10
  have hM14 := Lib.hid ((hM11.out.below hb7).mono hb7.size)
  clear hM11
  go_wp2_with fail
  refine (cGM _ _ w7 hM14.out).mono ?_
  rintro e w8 ⟨rfl, hb8⟩
  have hkc8 := hkc7.step hb8
  have hA15 := Lib.hid ((hA12.out.below hb8).mono hb8.size)
  clear hA12
  have hB16 := Lib.hid ((hB13.out.below hb8).mono hb8.size)
  clear hB13
  have hM17 := Lib.hid ((hM14.out.below hb8).mono hb8.size)
  clear hM14
  go_wp2_with fail
  refine (cAllM _ _ w8 hM17.out).mono ?_
  rintro e w9 ⟨v9, rfl, ho9, hb9⟩
  have hkc9 := hkc8.step hb9
  have hA18 := Lib.hid ((hA15.out.below hb9).mono hb9.size)
  clear hA15
  have hB19 := Lib.hid ((hB16.out.below hb9).mono hb9.size)
  clear hB16
  have hM20 := Lib.hid ((hM17.out.below hb9).mono hb9.size)
  clear hM17
  have hPn := (texts_own ho9 (Nat.le_refl _)).1
  obtain ⟨aoP, caP, rfl⟩ := hPn.shape
  have hP0 := Lib.hid hPn
  clear hPn ho9
  go_wp2_with fail
  refine (cAllA w9 hA18.out).mono ?_
  rintro e w10 ⟨v10, rfl, ho10, hb10⟩
  have hkc10 := hkc9.step hb10
  have hA21 := Lib.hid ((hA18.out.below hb10).mono hb10.size)
  clear hA18
  have hB22 := Lib.hid ((hB19.out.below hb10).mono hb10.size)
  clear hB19
  have hM23 := Lib.hid ((hM20.out.below hb10).mono hb10.size)
  clear hM20
  have hP24 := Lib.hid ((hP0.out.below hb10).mono hb10.size)
  clear hP0
  have hQn := (texts_own ho10 (Nat.le_refl _)).1
  obtain ⟨aoQ, caQ, rfl⟩ := hQn.shape
  have hQ0 := Lib.hid hQn
  clear hQn ho10
  go_wp2_with (at_builtin; refine wpList_appendTs rfl _ _ rfl (w10.heap.size) w10 _ [] TA _ (by rfl) (by rfl) hQ0.out (World.ownsRow_nil _ _ _ _) (Nat.le_refl _) (by simp only [List.length_nil, List.length_append]; omega) ?_)
  intro va wa hoa hpa
  go_wp2_with fail
  refine (cAllB wa ((hB22.out.below hpa).mono hpa.size)).mono ?_
  rintro e wb ⟨vb, rfl, hob, hbb⟩
  have hqb := hpa.trans (hbb.mono hpa.size)
  have hoa2 := row_same hoa (fun g _ hg => hbb.block g hg)
  have hT := (texts_own hob (Nat.le_refl _)).1
  obtain ⟨aoT, caT, rfl⟩ := hT.shape
  have hTh := Lib.hid hT
  clear hT hob hoa
  go_wp2_with (at_builtin; refine wpList_appendTs rfl _ _ rfl (w10.heap.size) wb _ ([] ++ TA) TB _ (by rfl) (by rfl) hTh.out hoa2 hqb.size (by simp only [List.length_nil, List.length_append]; omega) ?_)
  intro vc wc hoc hpc
  have hqc := hqb.trans hpc
  have hkR := hkc10.step hqc
  have hA25 := Lib.hid ((hA21.out.below hqc).mono hqc.size)
  clear hA21
  have hB26 := Lib.hid ((hB22.out.below hqc).mono hqc.size)
  clear hB22
  have hM27 := Lib.hid ((hM23.out.below hqc).mono hqc.size)
  clear hM23
  have hP28 := Lib.hid ((hP24.out.below hqc).mono hqc.size)
  clear hP24
  have hQ29 := Lib.hid ((hQ0.out.below hqc).mono hqc.size)
  clear hQ0
  have hrc : wc.ownsRow (w10.heap.size) 9 1 vc TT.length (strs TT) := by rw [eqTh.out]; simpa using hoc
  have hRn := (texts_own hrc (Nat.le_refl _)).1
  obtain ⟨aoR, caR, rfl⟩ := hRn.shape
  have hR0 := Lib.hid hRn
  clear hRn hoc hrc hoa2 hTh
  go_wp2_with fail
  refine (cR _ _ _ _ wc hP28.out hR0.out).mono ?_
  rintro e w11 ⟨rfl, hb11⟩
  have hkc11 := hkR.step hb11
  have hA30 := Lib.hid ((hA25.out.below hb11).mono hb11.size)
  clear hA25
  have hB31 := Lib.hid ((hB26.out.below hb11).mono hb11.size)
  clear hB26
  have hM32 := Lib.hid ((hM27.out.below hb11).mono hb11.size)
  clear hM27
  have hP33 := Lib.hid ((hP28.out.below hb11).mono hb11.size)
  clear hP28
  have hQ34 := Lib.hid ((hQ29.out.below hb11).mono hb11.size)
  clear hQ29
  have hR35 := Lib.hid ((hR0.out.below hb11).mono hb11.size)
  clear hR0
  clear hP33
  clear hR35
  clear hQ34
  go_wp2_with fail
  refine (cAllA w11 hA30.out).mono ?_
  rintro e w12 ⟨v12, rfl, ho12, hb12⟩
  have hkc12 := hkc11.step hb12
  have hA36 := Lib.hid ((hA30.out.below hb12).mono hb12.size)
  clear hA30
  have hB37 := Lib.hid ((hB31.out.below hb12).mono hb12.size)
  clear hB31
  have hM38 := Lib.hid ((hM32.out.below hb12).mono hb12.size)
  clear hM32
  have hQn := (texts_own ho12 (Nat.le_refl _)).1
  obtain ⟨aoQ, caQ, rfl⟩ := hQn.shape
  have hQ0 := Lib.hid hQn
  clear hQn ho12
  go_wp2
  go_ret
  exact ⟨rfl, hkc12.below⟩

theorem law_HeadGet (va : Value) (A : List Fld) (vb : Value) (B : List Fld) (a : ByteArray) (_ha : a.size ≤ 140737488351232) (w : World) (hG : Good w)
    (hA : Flds w.heap.size w va A) (_oA : va.oneCell' = true) (mA : A.length ≤ maxLen) (nA : ∀ f ∈ A, f.1.length ≤ maxLen ∧ f.2.length ≤ maxLen)
    (hB : Flds w.heap.size w vb B) (_oB : vb.oneCell' = true) (mB : B.length ≤ maxLen) (nB : ∀ f ∈ B, f.1.length ≤ maxLen ∧ f.2.length ≤ maxLen) :
    Calls Tryd.prog 7 #[va, vb, .string a] w fun e w' => e = .returned (.bool true) ∧ Below w.heap.size w w' := by
  obtain ⟨n, rfl⟩ : ∃ l : List UInt8, a = ⟨l.toArray⟩ := ⟨a.data.toList, rfl⟩
  obtain ⟨aoA, caA, rfl⟩ := hA.shape
  obtain ⟨aoB, caB, rfl⟩ := hB.shape
  have cFA := fun (w1 : World) h => Few13_any (.slice aoA A.length caA) A mA nA w1 h
  have cFB := fun (w1 : World) h => Few13_any (.slice aoB B.length caB) B mB nB w1 h
  cases hFA : few13 A <;> cases hFB : few13 B <;> (rw [hFA] at cFA; rw [hFB] at cFB)
  · exact get_few_c aoA caA A aoB caB B n w hG (Lib.hid hA) (Lib.hid hB) cFA cFB
  · exact get_few_a aoA caA A aoB caB B n w hG (Lib.hid hA) (Lib.hid hB) cFA cFB
  · exact get_few_b aoA caA A aoB caB B n w hG (Lib.hid hA) (Lib.hid hB) cFA cFB
  · rcases Nat.lt_or_ge 300 n.length with hn | hn
    · exact get_long aoA caA A aoB caB B n w hG (Lib.hid hA) (Lib.hid hB) cFA cFB hn
    · cases ha : (allL n A).isEmpty <;> cases hb : (allL n B).isEmpty
      · exact get_true_true aoA caA A aoB caB B n w hG (Lib.hid hA) (Lib.hid hB) cFA cFB (few_sm hFA) (few_sm hFB) hn ha hb
      · exact get_true_false aoA caA A aoB caB B n w hG (Lib.hid hA) (Lib.hid hB) cFA cFB (few_sm hFA) (few_sm hFB) hn ha hb
      · exact get_false_true aoA caA A aoB caB B n w hG (Lib.hid hA) (Lib.hid hB) cFA cFB (few_sm hFA) (few_sm hFB) hn ha hb
      · exact get_false_false aoA caA A aoB caB B n w hG (Lib.hid hA) (Lib.hid hB) cFA cFB (few_sm hFA) (few_sm hFB) hn ha hb

end Go.Proofs.YtgbjofahmkeapaaDoor
