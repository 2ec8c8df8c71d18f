/- The law TokenSplit, walked over the contracts. -/
import Derived.Test.YtnppnogmpoigkaaDoorTokQ
import Derived.Test.YtnppnogmpoigkaaDoorLaw14d
namespace Go.Proofs.YtnppnogmpoigkaaDoor
open Go.RowKit Go.Proofs.YtnppnogmpoigkaaDoorW.PrintWords
set_option linter.unusedVariables false
set_option linter.unnecessarySimpa false
set_option linter.unusedSimpArgs false

theorem Texts.shape {n₀ : Nat} {w : World} {sv : Value} {l : List (List UInt8)} (h : Texts n₀ w sv l) : ∃ ao cap, sv = .slice ao l.length cap := h.shapeT
theorem Texts.cellT {n₀ : Nat} {w : World} {ao : Option Addr} {cap n : Nat} {l : List (List UInt8)} (h : Texts n₀ w (.slice ao n cap) l) {k : Nat} {x : List UInt8} (hx : l[k]? = some x) : ∃ g off, ao = some ⟨g, off, none⟩ ∧ w.cell? ⟨g, off + k, none⟩ = some (.string ⟨x.toArray⟩) := by
  obtain ⟨g, off, e, _, h1⟩ := h.taT k x hx
  exact ⟨g, off, e, h1⟩

set_option maxHeartbeats 8000000 in
set_option maxRecDepth 100000 in
theorem ts_long_a (a b : ByteArray) (i : Int) (w : World) (hG : Good w) (h_a : 300 < a.size) :
    Calls Tryd.prog 6 #[.string a, .string b, .int .i64 i] w fun e w' => e = .returned (.bool true) ∧ Below w.heap.size w w' := by
  have d_a : decide ((300 : Int) < (a.size : Int)) = true := decide_eq_true (by omega)
  have e_a : decide (300 < a.size) = true := decide_eq_true (by omega)
  clear h_a
  have hk0 := Ok.refl hG
  go_enter Tryd.func6, Tryd.ntmps6
  go_wp2_with fail
  refine (awake14 w hk0.good).mono ?_
  rintro e w1 ⟨rfl, hb1⟩
  have hkc1 := hk0.step hb1
  go_wp2
  go_ret
  exact ⟨rfl, hkc1.below⟩

set_option maxHeartbeats 8000000 in
set_option maxRecDepth 100000 in
theorem ts_long_b (a b : ByteArray) (i : Int) (w : World) (hG : Good w) (h_a : a.size ≤ 300) (h_b : 300 < b.size) :
    Calls Tryd.prog 6 #[.string a, .string b, .int .i64 i] w fun e w' => e = .returned (.bool true) ∧ Below w.heap.size w w' := by
  have d_a : decide ((300 : Int) < (a.size : Int)) = false := decide_eq_false (by omega)
  have e_a : decide (300 < a.size) = false := decide_eq_false (by omega)
  have d_b : decide ((300 : Int) < (b.size : Int)) = true := decide_eq_true (by omega)
  have e_b : decide (300 < b.size) = true := decide_eq_true (by omega)
  clear h_a
  clear h_b
  have hk0 := Ok.refl hG
  go_enter Tryd.func6, Tryd.ntmps6
  go_wp2_with fail
  refine (awake14 w hk0.good).mono ?_
  rintro e w1 ⟨rfl, hb1⟩
  have hkc1 := hk0.step hb1
  go_wp2
  go_ret
  exact ⟨rfl, hkc1.below⟩

set_option maxHeartbeats 8000000 in
set_option maxRecDepth 100000 in
theorem ts_neg (a b : ByteArray) (i : Int) (w : World) (hG : Good w) (h_a : a.size ≤ 300) (h_b : b.size ≤ 300) (hi : i < 0) :
    Calls Tryd.prog 6 #[.string a, .string b, .int .i64 i] w fun e w' => e = .returned (.bool true) ∧ Below w.heap.size w w' := by
  have e1 : (a ++ ⟨#[44]⟩ ++ b : ByteArray).data.toList = a.data.toList ++ 44 :: b.data.toList := by simp [ByteArray.data_append]
  have z1 := congrArg List.length e1
  simp only [List.length_append, List.length_cons, List.length_nil, ← size_list] at z1
  have cA := fun w1 (hG : Good w1) => tok_Split_any a (by omega) w1 hG
  have cB := fun w1 (hG : Good w1) => tok_Split_any b (by omega) w1 hG
  have cX := fun w1 (hG : Good w1) => tok_Split_any (a ++ ⟨#[44]⟩ ++ b) (by omega) w1 hG
  rw [e1, splitT_two] at cX
  have lA := splitT_len a.data.toList
  have lB := splitT_len b.data.toList
  have sA := size_list a
  have sB := size_list b
  have nA : 0 < (splitT a.data.toList).length := List.length_pos_iff.2 (splitT_ne _)
  clear e1 z1
  generalize splitT a.data.toList = L at *
  generalize splitT b.data.toList = K at *
  have hL : L.length ≤ 301 := by omega
  have hK : K.length ≤ 301 := by omega
  clear lA lB sA sB
  obtain ⟨M, hM⟩ : ∃ M : List (List UInt8), M = L ++ K := ⟨_, rfl⟩
  have hMl : M.length ≤ 602 := by rw [hM, List.length_append]; omega
  rw [← hM] at cX
  have cR := fun ao ca bo cb w1 hP hR => ref08_Same (.slice ao M.length ca) (.slice bo M.length cb) M M (by omega) (by omega) w1 hP hR
  rw [beq_self_eq_true] at cR
  have hMM := Lib.hid hM
  clear hM
  have d5 : decide ((L.length : Int) < 1) = false := decide_eq_false (by omega)
  have d6 : decide (L.length < 1) = false := decide_eq_false (by omega)
  have d_a : decide ((300 : Int) < (a.size : Int)) = false := decide_eq_false (by omega)
  have e_a : decide (300 < a.size) = false := decide_eq_false (by omega)
  have d_b : decide ((300 : Int) < (b.size : Int)) = false := decide_eq_false (by omega)
  have e_b : decide (300 < b.size) = false := decide_eq_false (by omega)
  have i0 : decide (i < 0) = true := decide_eq_true hi
  clear hi
  have hk0 := Ok.refl hG
  go_enter Tryd.func6, Tryd.ntmps6
  go_wp2_with fail
  refine (awake14 w hk0.good).mono ?_
  rintro e w1 ⟨rfl, hb1⟩
  have hkc1 := hk0.step hb1
  go_wp2_with fail
  refine (cA w1 hkc1.good).mono ?_
  rintro e w2 ⟨v2, rfl, ho2, hb2⟩
  have hkc2 := hkc1.step hb2
  have hLn := (texts_own ho2 (Nat.le_refl _)).1
  obtain ⟨aoL, caL, rfl⟩ := hLn.shape
  have hL0 := Lib.hid hLn
  clear hLn ho2
  go_wp2_with fail
  refine (cB w2 hkc2.good).mono ?_
  rintro e w3 ⟨v3, rfl, ho3, hb3⟩
  have hkc3 := hkc2.step hb3
  have hL1 := Lib.hid ((hL0.out.below hb3).mono hb3.size)
  clear hL0
  have hKn := (texts_own ho3 (Nat.le_refl _)).1
  obtain ⟨aoK, caK, rfl⟩ := hKn.shape
  have hK0 := Lib.hid hKn
  clear hKn ho3
  go_wp2_with fail
  refine (cX w3 hkc3.good).mono ?_
  rintro e w4 ⟨v4, rfl, ho4, hb4⟩
  have hkc4 := hkc3.step hb4
  have hL2 := Lib.hid ((hL1.out.below hb4).mono hb4.size)
  clear hL1
  have hK3 := Lib.hid ((hK0.out.below hb4).mono hb4.size)
  clear hK0
  have hXn := (texts_own ho4 (Nat.le_refl _)).1
  obtain ⟨aoX, caX, rfl⟩ := hXn.shape
  have hX0 := Lib.hid hXn
  clear hXn ho4
  go_wp2_with (at_builtin; refine wpList_appendTs rfl _ _ rfl (w4.heap.size) w4 _ ([]) (L) _ (by rfl) (by rfl) hL2.out (World.ownsRow_nil _ _ _ _) (Nat.le_refl _) (by simp only [List.length_nil, List.length_append]; omega) ?_)
  intro v5 w5 ho5 hp5
  have hq5 := hp5
  go_wp2_with (at_builtin; refine wpList_appendTs rfl _ _ rfl (w4.heap.size) w5 _ ([] ++ L) (K) _ (by rfl) (by rfl) ((hK3.out.below hq5).mono hq5.size) ho5 hq5.size (by simp only [List.length_nil, List.length_append]; omega) ?_)
  intro v6 w6 ho6 hp6
  have hq6 := hq5.trans hp6
  have hkc6 := hkc4.step hq6
  have hL4 := Lib.hid ((hL2.out.below hq6).mono hq6.size)
  clear hL2
  have hK5 := Lib.hid ((hK3.out.below hq6).mono hq6.size)
  clear hK3
  have hX6 := Lib.hid ((hX0.out.below hq6).mono hq6.size)
  clear hX0
  have hr6 : w6.ownsRow (w4.heap.size) 9 1 v6 (L ++ K).length (strs (L ++ K)) := by simpa using ho6
  rw [← hMM.out] at hr6
  have hMn := (texts_own hr6 (Nat.le_refl _)).1
  obtain ⟨aoM, caM, rfl⟩ := hMn.shape
  have hM0 := Lib.hid hMn
  clear hMn ho6 hr6
  go_wp2_with fail
  refine (cR _ _ _ _ w6 hX6.out hM0.out).mono ?_
  rintro e w7 ⟨rfl, hb7⟩
  have hkc7 := hkc6.step hb7
  have hL7 := Lib.hid ((hL4.out.below hb7).mono hb7.size)
  clear hL4
  have hK8 := Lib.hid ((hK5.out.below hb7).mono hb7.size)
  clear hK5
  have hX9 := Lib.hid ((hX6.out.below hb7).mono hb7.size)
  clear hX6
  have hM10 := Lib.hid ((hM0.out.below hb7).mono hb7.size)
  clear hM0
  clear hX9
  clear hM10
  clear hK8
  clear hL7
  go_wp2
  go_ret
  exact ⟨rfl, hkc7.below⟩

set_option maxHeartbeats 8000000 in
set_option maxRecDepth 100000 in
theorem ts_out (a b : ByteArray) (i : Int) (w : World) (hG : Good w) (h_a : a.size ≤ 300) (h_b : b.size ≤ 300) (hi : 0 ≤ i) (hj : (splitT a.data.toList).length ≤ i) :
    Calls Tryd.prog 6 #[.string a, .string b, .int .i64 i] w fun e w' => e = .returned (.bool true) ∧ Below w.heap.size w w' := by
  have e1 : (a ++ ⟨#[44]⟩ ++ b : ByteArray).data.toList = a.data.toList ++ 44 :: b.data.toList := by simp [ByteArray.data_append]
  have z1 := congrArg List.length e1
  simp only [List.length_append, List.length_cons, List.length_nil, ← size_list] at z1
  have cA := fun w1 (hG : Good w1) => tok_Split_any a (by omega) w1 hG
  have cB := fun w1 (hG : Good w1) => tok_Split_any b (by omega) w1 hG
  have cX := fun w1 (hG : Good w1) => tok_Split_any (a ++ ⟨#[44]⟩ ++ b) (by omega) w1 hG
  rw [e1, splitT_two] at cX
  have lA := splitT_len a.data.toList
  have lB := splitT_len b.data.toList
  have sA := size_list a
  have sB := size_list b
  have nA : 0 < (splitT a.data.toList).length := List.length_pos_iff.2 (splitT_ne _)
  clear e1 z1
  generalize hLe : splitT a.data.toList = L0 at *
  subst hLe
  generalize splitT a.data.toList = L at *
  generalize splitT b.data.toList = K at *
  have hL : L.length ≤ 301 := by omega
  have hK : K.length ≤ 301 := by omega
  clear lA lB sA sB
  obtain ⟨M, hM⟩ : ∃ M : List (List UInt8), M = L ++ K := ⟨_, rfl⟩
  have hMl : M.length ≤ 602 := by rw [hM, List.length_append]; omega
  rw [← hM] at cX
  have cR := fun ao ca bo cb w1 hP hR => ref08_Same (.slice ao M.length ca) (.slice bo M.length cb) M M (by omega) (by omega) w1 hP hR
  rw [beq_self_eq_true] at cR
  have hMM := Lib.hid hM
  clear hM
  have d5 : decide ((L.length : Int) < 1) = false := decide_eq_false (by omega)
  have d6 : decide (L.length < 1) = false := decide_eq_false (by omega)
  have d_a : decide ((300 : Int) < (a.size : Int)) = false := decide_eq_false (by omega)
  have e_a : decide (300 < a.size) = false := decide_eq_false (by omega)
  have d_b : decide ((300 : Int) < (b.size : Int)) = false := decide_eq_false (by omega)
  have e_b : decide (300 < b.size) = false := decide_eq_false (by omega)
  have i0 : decide (i < 0) = false := decide_eq_false (by omega)
  have i1 : decide ((L.length : Int) ≤ i) = true := decide_eq_true hj
  clear hi hj
  have hk0 := Ok.refl hG
  go_enter Tryd.func6, Tryd.ntmps6
  go_wp2_with fail
  refine (awake14 w hk0.good).mono ?_
  rintro e w1 ⟨rfl, hb1⟩
  have hkc1 := hk0.step hb1
  go_wp2_with fail
  refine (cA w1 hkc1.good).mono ?_
  rintro e w2 ⟨v2, rfl, ho2, hb2⟩
  have hkc2 := hkc1.step hb2
  have hLn := (texts_own ho2 (Nat.le_refl _)).1
  obtain ⟨aoL, caL, rfl⟩ := hLn.shape
  have hL0 := Lib.hid hLn
  clear hLn ho2
  go_wp2_with fail
  refine (cB w2 hkc2.good).mono ?_
  rintro e w3 ⟨v3, rfl, ho3, hb3⟩
  have hkc3 := hkc2.step hb3
  have hL1 := Lib.hid ((hL0.out.below hb3).mono hb3.size)
  clear hL0
  have hKn := (texts_own ho3 (Nat.le_refl _)).1
  obtain ⟨aoK, caK, rfl⟩ := hKn.shape
  have hK0 := Lib.hid hKn
  clear hKn ho3
  go_wp2_with fail
  refine (cX w3 hkc3.good).mono ?_
  rintro e w4 ⟨v4, rfl, ho4, hb4⟩
  have hkc4 := hkc3.step hb4
  have hL2 := Lib.hid ((hL1.out.below hb4).mono hb4.size)
  clear hL1
  have hK3 := Lib.hid ((hK0.out.below hb4).mono hb4.size)
  clear hK0
  have hXn := (texts_own ho4 (Nat.le_refl _)).1
  obtain ⟨aoX, caX, rfl⟩ := hXn.shape
  have hX0 := Lib.hid hXn
  clear hXn ho4
  go_wp2_with (at_builtin; refine wpList_appendTs rfl _ _ rfl (w4.heap.size) w4 _ ([]) (L) _ (by rfl) (by rfl) hL2.out (World.ownsRow_nil _ _ _ _) (Nat.le_refl _) (by simp only [List.length_nil, List.length_append]; omega) ?_)
  intro v5 w5 ho5 hp5
  have hq5 := hp5
  go_wp2_with (at_builtin; refine wpList_appendTs rfl _ _ rfl (w4.heap.size) w5 _ ([] ++ L) (K) _ (by rfl) (by rfl) ((hK3.out.below hq5).mono hq5.size) ho5 hq5.size (by simp only [List.length_nil, List.length_append]; omega) ?_)
  intro v6 w6 ho6 hp6
  have hq6 := hq5.trans hp6
  have hkc6 := hkc4.step hq6
  have hL4 := Lib.hid ((hL2.out.below hq6).mono hq6.size)
  clear hL2
  have hK5 := Lib.hid ((hK3.out.below hq6).mono hq6.size)
  clear hK3
  have hX6 := Lib.hid ((hX0.out.below hq6).mono hq6.size)
  clear hX0
  have hr6 : w6.ownsRow (w4.heap.size) 9 1 v6 (L ++ K).length (strs (L ++ K)) := by simpa using ho6
  rw [← hMM.out] at hr6
  have hMn := (texts_own hr6 (Nat.le_refl _)).1
  obtain ⟨aoM, caM, rfl⟩ := hMn.shape
  have hM0 := Lib.hid hMn
  clear hMn ho6 hr6
  go_wp2_with fail
  refine (cR _ _ _ _ w6 hX6.out hM0.out).mono ?_
  rintro e w7 ⟨rfl, hb7⟩
  have hkc7 := hkc6.step hb7
  have hL7 := Lib.hid ((hL4.out.below hb7).mono hb7.size)
  clear hL4
  have hK8 := Lib.hid ((hK5.out.below hb7).mono hb7.size)
  clear hK5
  have hX9 := Lib.hid ((hX6.out.below hb7).mono hb7.size)
  clear hX6
  have hM10 := Lib.hid ((hM0.out.below hb7).mono hb7.size)
  clear hM0
  clear hX9
  clear hM10
  clear hK8
  clear hL7
  go_wp2
  go_ret
  exact ⟨rfl, hkc7.below⟩

set_option maxHeartbeats 8000000 in
set_option maxRecDepth 100000 in
theorem ts_empty (a b : ByteArray) (k : Nat) (x : List UInt8) (w : World) (hG : Good w) (h_a : a.size ≤ 300) (h_b : b.size ≤ 300) (hx : (splitT a.data.toList)[k]? = some x) (he : x = []) :
    Calls Tryd.prog 6 #[.string a, .string b, .int .i64 (k : Nat)] w fun e w' => e = .returned (.bool true) ∧ Below w.heap.size w w' := by
  have e1 : (a ++ ⟨#[44]⟩ ++ b : ByteArray).data.toList = a.data.toList ++ 44 :: b.data.toList := by simp [ByteArray.data_append]
  have z1 := congrArg List.length e1
  simp only [List.length_append, List.length_cons, List.length_nil, ← size_list] at z1
  have cA := fun w1 (hG : Good w1) => tok_Split_any a (by omega) w1 hG
  have cB := fun w1 (hG : Good w1) => tok_Split_any b (by omega) w1 hG
  have cX := fun w1 (hG : Good w1) => tok_Split_any (a ++ ⟨#[44]⟩ ++ b) (by omega) w1 hG
  rw [e1, splitT_two] at cX
  have lA := splitT_len a.data.toList
  have lB := splitT_len b.data.toList
  have sA := size_list a
  have sB := size_list b
  have nA : 0 < (splitT a.data.toList).length := List.length_pos_iff.2 (splitT_ne _)
  clear e1 z1
  generalize splitT a.data.toList = L at *
  generalize splitT b.data.toList = K at *
  have hL : L.length ≤ 301 := by omega
  have hK : K.length ≤ 301 := by omega
  clear lA lB sA sB
  obtain ⟨M, hM⟩ : ∃ M : List (List UInt8), M = L ++ K := ⟨_, rfl⟩
  have hMl : M.length ≤ 602 := by rw [hM, List.length_append]; omega
  rw [← hM] at cX
  have cR := fun ao ca bo cb w1 hP hR => ref08_Same (.slice ao M.length ca) (.slice bo M.length cb) M M (by omega) (by omega) w1 hP hR
  rw [beq_self_eq_true] at cR
  have hMM := Lib.hid hM
  clear hM
  have d5 : decide ((L.length : Int) < 1) = false := decide_eq_false (by omega)
  have d6 : decide (L.length < 1) = false := decide_eq_false (by omega)
  have d_a : decide ((300 : Int) < (a.size : Int)) = false := decide_eq_false (by omega)
  have e_a : decide (300 < a.size) = false := decide_eq_false (by omega)
  have d_b : decide ((300 : Int) < (b.size : Int)) = false := decide_eq_false (by omega)
  have e_b : decide (300 < b.size) = false := decide_eq_false (by omega)
  have hkl := (List.getElem?_eq_some_iff.1 hx).1
  subst he
  have i0 : decide ((k : Int) < 0) = false := decide_eq_false (by omega)
  have i1 : decide ((L.length : Int) ≤ (k : Int)) = false := decide_eq_false (by omega)
  have i2 : decide (L.length ≤ k) = false := decide_eq_false (by omega)
  have HX := Lib.hid hx
  clear hx
  have hk0 := Ok.refl hG
  go_enter Tryd.func6, Tryd.ntmps6
  go_wp2_with fail
  refine (awake14 w hk0.good).mono ?_
  rintro e w1 ⟨rfl, hb1⟩
  have hkc1 := hk0.step hb1
  go_wp2_with fail
  refine (cA w1 hkc1.good).mono ?_
  rintro e w2 ⟨v2, rfl, ho2, hb2⟩
  have hkc2 := hkc1.step hb2
  have hLn := (texts_own ho2 (Nat.le_refl _)).1
  obtain ⟨aoL, caL, rfl⟩ := hLn.shape
  have hL0 := Lib.hid hLn
  clear hLn ho2
  go_wp2_with fail
  refine (cB w2 hkc2.good).mono ?_
  rintro e w3 ⟨v3, rfl, ho3, hb3⟩
  have hkc3 := hkc2.step hb3
  have hL1 := Lib.hid ((hL0.out.below hb3).mono hb3.size)
  clear hL0
  have hKn := (texts_own ho3 (Nat.le_refl _)).1
  obtain ⟨aoK, caK, rfl⟩ := hKn.shape
  have hK0 := Lib.hid hKn
  clear hKn ho3
  go_wp2_with fail
  refine (cX w3 hkc3.good).mono ?_
  rintro e w4 ⟨v4, rfl, ho4, hb4⟩
  have hkc4 := hkc3.step hb4
  have hL2 := Lib.hid ((hL1.out.below hb4).mono hb4.size)
  clear hL1
  have hK3 := Lib.hid ((hK0.out.below hb4).mono hb4.size)
  clear hK0
  have hXn := (texts_own ho4 (Nat.le_refl _)).1
  obtain ⟨aoX, caX, rfl⟩ := hXn.shape
  have hX0 := Lib.hid hXn
  clear hXn ho4
  go_wp2_with (at_builtin; refine wpList_appendTs rfl _ _ rfl (w4.heap.size) w4 _ ([]) (L) _ (by rfl) (by rfl) hL2.out (World.ownsRow_nil _ _ _ _) (Nat.le_refl _) (by simp only [List.length_nil, List.length_append]; omega) ?_)
  intro v5 w5 ho5 hp5
  have hq5 := hp5
  go_wp2_with (at_builtin; refine wpList_appendTs rfl _ _ rfl (w4.heap.size) w5 _ ([] ++ L) (K) _ (by rfl) (by rfl) ((hK3.out.below hq5).mono hq5.size) ho5 hq5.size (by simp only [List.length_nil, List.length_append]; omega) ?_)
  intro v6 w6 ho6 hp6
  have hq6 := hq5.trans hp6
  have hkc6 := hkc4.step hq6
  have hL4 := Lib.hid ((hL2.out.below hq6).mono hq6.size)
  clear hL2
  have hK5 := Lib.hid ((hK3.out.below hq6).mono hq6.size)
  clear hK3
  have hX6 := Lib.hid ((hX0.out.below hq6).mono hq6.size)
  clear hX0
  have hr6 : w6.ownsRow (w4.heap.size) 9 1 v6 (L ++ K).length (strs (L ++ K)) := by simpa using ho6
  rw [← hMM.out] at hr6
  have hMn := (texts_own hr6 (Nat.le_refl _)).1
  obtain ⟨aoM, caM, rfl⟩ := hMn.shape
  have hM0 := Lib.hid hMn
  clear hMn ho6 hr6
  go_wp2_with fail
  refine (cR _ _ _ _ w6 hX6.out hM0.out).mono ?_
  rintro e w7 ⟨rfl, hb7⟩
  have hkc7 := hkc6.step hb7
  have hL7 := Lib.hid ((hL4.out.below hb7).mono hb7.size)
  clear hL4
  have hK8 := Lib.hid ((hK5.out.below hb7).mono hb7.size)
  clear hK5
  have hX9 := Lib.hid ((hX6.out.below hb7).mono hb7.size)
  clear hX6
  have hM10 := Lib.hid ((hM0.out.below hb7).mono hb7.size)
  clear hM0
  clear hX9
  clear hM10
  clear hK8
  obtain ⟨gL, oL, rfl, cL⟩ := Texts.cellT hL7.out HX.out
  clear hL7
  go_wp2
  go_ret
  exact ⟨rfl, hkc7.below⟩

set_option maxHeartbeats 8000000 in
set_option maxRecDepth 100000 in
theorem ts_full (a b : ByteArray) (k : Nat) (x : List UInt8) (w : World) (hG : Good w) (h_a : a.size ≤ 300) (h_b : b.size ≤ 300) (hx : (splitT a.data.toList)[k]? = some x) (he : x ≠ []) :
    Calls Tryd.prog 6 #[.string a, .string b, .int .i64 (k : Nat)] w fun e w' => e = .returned (.bool true) ∧ Below w.heap.size w w' := by
  have e1 : (a ++ ⟨#[44]⟩ ++ b : ByteArray).data.toList = a.data.toList ++ 44 :: b.data.toList := by simp [ByteArray.data_append]
  have z1 := congrArg List.length e1
  simp only [List.length_append, List.length_cons, List.length_nil, ← size_list] at z1
  have cA := fun w1 (hG : Good w1) => tok_Split_any a (by omega) w1 hG
  have cB := fun w1 (hG : Good w1) => tok_Split_any b (by omega) w1 hG
  have cX := fun w1 (hG : Good w1) => tok_Split_any (a ++ ⟨#[44]⟩ ++ b) (by omega) w1 hG
  rw [e1, splitT_two] at cX
  have lA := splitT_len a.data.toList
  have lB := splitT_len b.data.toList
  have sA := size_list a
  have sB := size_list b
  have nA : 0 < (splitT a.data.toList).length := List.length_pos_iff.2 (splitT_ne _)
  clear e1 z1
  have hpt := splitT_part (List.mem_of_getElem? hx)
  obtain ⟨hp1, hp2⟩ := hpt
  obtain ⟨⟨c0, t0, e0, n0⟩, c1, t1, e2, n1⟩ := hp2.resolve_left he
  obtain ⟨S, hS⟩ : ∃ S : ByteArray, S = ⟨x.toArray⟩ := ⟨_, rfl⟩
  have hSl : S.data.toList = x := by rw [hS]
  have hSz : S.size = t1.length + 1 := by rw [size_list, hSl, e2]; simp
  have hne : S.toList.isEmpty = false := by rw [ba_toList, hSl, e0]; rfl
  have h0 : 0 < S.size := by omega
  have h1 : t1.length < S.size := by omega
  have hs0 : S[0]'h0 = c0 := get_cons (l := t0) (by rw [hSl, e0]; rfl) _
  have hs1 : S[t1.length]'h1 = c1 := get_cons (l := []) (by rw [hSl, e2]; simp) _
  have hcm : ∀ (m : Nat) (h : m < S.size), S[m]'h ≠ 44 := fun m h e => hp1 (by
    rw [← hSl, ← e]
    exact Array.mem_toList_iff.2 (Array.getElem_mem _))
  have HC := Lib.hid hcm
  obtain ⟨p1, p2⟩ := bl_no n0
  obtain ⟨p3, p4⟩ := bl_no n1
  have q1 : ((c0.toNat : Int) != 32) = true := bne_iff_ne.2 (fun e => p1 (UInt8.toNat_inj.1 (by have : (32 : UInt8).toNat = 32 := rfl; omega)))
  have q2 : ((c0.toNat : Int) != 9) = true := bne_iff_ne.2 (fun e => p2 (UInt8.toNat_inj.1 (by have : (9 : UInt8).toNat = 9 := rfl; omega)))
  have q3 : ((c1.toNat : Int) != 32) = true := bne_iff_ne.2 (fun e => p3 (UInt8.toNat_inj.1 (by have : (32 : UInt8).toNat = 32 := rfl; omega)))
  have q4 : ((c1.toNat : Int) != 9) = true := bne_iff_ne.2 (fun e => p4 (UInt8.toNat_inj.1 (by have : (9 : UInt8).toNat = 9 := rfl; omega)))
  have hsz : S.size ≤ 300 := Nat.le_trans (by rw [size_list, hSl]; exact splitT_le _ x (List.mem_of_getElem? hx)) (by rw [← size_list]; exact h_a)
  have hSS := Lib.hid hS
  clear hS hSl he hp1 hp2 e0 e2 n0 n1 p1 p2 p3 p4 hcm
  generalize t1.length = j at *
  generalize splitT a.data.toList = L at *
  generalize splitT b.data.toList = K at *
  have hL : L.length ≤ 301 := by omega
  have hK : K.length ≤ 301 := by omega
  clear lA lB sA sB
  obtain ⟨M, hM⟩ : ∃ M : List (List UInt8), M = L ++ K := ⟨_, rfl⟩
  have hMl : M.length ≤ 602 := by rw [hM, List.length_append]; omega
  rw [← hM] at cX
  have cR := fun ao ca bo cb w1 hP hR => ref08_Same (.slice ao M.length ca) (.slice bo M.length cb) M M (by omega) (by omega) w1 hP hR
  rw [beq_self_eq_true] at cR
  have hMM := Lib.hid hM
  clear hM
  have d5 : decide ((L.length : Int) < 1) = false := decide_eq_false (by omega)
  have d6 : decide (L.length < 1) = false := decide_eq_false (by omega)
  have d_a : decide ((300 : Int) < (a.size : Int)) = false := decide_eq_false (by omega)
  have e_a : decide (300 < a.size) = false := decide_eq_false (by omega)
  have d_b : decide ((300 : Int) < (b.size : Int)) = false := decide_eq_false (by omega)
  have e_b : decide (300 < b.size) = false := decide_eq_false (by omega)
  have hkl := (List.getElem?_eq_some_iff.1 hx).1
  have i0 : decide ((k : Int) < 0) = false := decide_eq_false (by omega)
  have i1 : decide ((L.length : Int) ≤ (k : Int)) = false := decide_eq_false (by omega)
  have i2 : decide (L.length ≤ k) = false := decide_eq_false (by omega)
  have HX := Lib.hid hx
  clear hx
  have hk0 := Ok.refl hG
  go_enter Tryd.func6, Tryd.ntmps6
  go_wp2_with fail
  refine (awake14 w hk0.good).mono ?_
  rintro e w1 ⟨rfl, hb1⟩
  have hkc1 := hk0.step hb1
  go_wp2_with fail
  refine (cA w1 hkc1.good).mono ?_
  rintro e w2 ⟨v2, rfl, ho2, hb2⟩
  have hkc2 := hkc1.step hb2
  have hLn := (texts_own ho2 (Nat.le_refl _)).1
  obtain ⟨aoL, caL, rfl⟩ := hLn.shape
  have hL0 := Lib.hid hLn
  clear hLn ho2
  go_wp2_with fail
  refine (cB w2 hkc2.good).mono ?_
  rintro e w3 ⟨v3, rfl, ho3, hb3⟩
  have hkc3 := hkc2.step hb3
  have hL1 := Lib.hid ((hL0.out.below hb3).mono hb3.size)
  clear hL0
  have hKn := (texts_own ho3 (Nat.le_refl _)).1
  obtain ⟨aoK, caK, rfl⟩ := hKn.shape
  have hK0 := Lib.hid hKn
  clear hKn ho3
  go_wp2_with fail
  refine (cX w3 hkc3.good).mono ?_
  rintro e w4 ⟨v4, rfl, ho4, hb4⟩
  have hkc4 := hkc3.step hb4
  have hL2 := Lib.hid ((hL1.out.below hb4).mono hb4.size)
  clear hL1
  have hK3 := Lib.hid ((hK0.out.below hb4).mono hb4.size)
  clear hK0
  have hXn := (texts_own ho4 (Nat.le_refl _)).1
  obtain ⟨aoX, caX, rfl⟩ := hXn.shape
  have hX0 := Lib.hid hXn
  clear hXn ho4
  go_wp2_with (at_builtin; refine wpList_appendTs rfl _ _ rfl (w4.heap.size) w4 _ ([]) (L) _ (by rfl) (by rfl) hL2.out (World.ownsRow_nil _ _ _ _) (Nat.le_refl _) (by simp only [List.length_nil, List.length_append]; omega) ?_)
  intro v5 w5 ho5 hp5
  have hq5 := hp5
  go_wp2_with (at_builtin; refine wpList_appendTs rfl _ _ rfl (w4.heap.size) w5 _ ([] ++ L) (K) _ (by rfl) (by rfl) ((hK3.out.below hq5).mono hq5.size) ho5 hq5.size (by simp only [List.length_nil, List.length_append]; omega) ?_)
  intro v6 w6 ho6 hp6
  have hq6 := hq5.trans hp6
  have hkc6 := hkc4.step hq6
  have hL4 := Lib.hid ((hL2.out.below hq6).mono hq6.size)
  clear hL2
  have hK5 := Lib.hid ((hK3.out.below hq6).mono hq6.size)
  clear hK3
  have hX6 := Lib.hid ((hX0.out.below hq6).mono hq6.size)
  clear hX0
  have hr6 : w6.ownsRow (w4.heap.size) 9 1 v6 (L ++ K).length (strs (L ++ K)) := by simpa using ho6
  rw [← hMM.out] at hr6
  have hMn := (texts_own hr6 (Nat.le_refl _)).1
  obtain ⟨aoM, caM, rfl⟩ := hMn.shape
  have hM0 := Lib.hid hMn
  clear hMn ho6 hr6
  go_wp2_with fail
  refine (cR _ _ _ _ w6 hX6.out hM0.out).mono ?_
  rintro e w7 ⟨rfl, hb7⟩
  have hkc7 := hkc6.step hb7
  have hL7 := Lib.hid ((hL4.out.below hb7).mono hb7.size)
  clear hL4
  have hK8 := Lib.hid ((hK5.out.below hb7).mono hb7.size)
  clear hK5
  have hX9 := Lib.hid ((hX6.out.below hb7).mono hb7.size)
  clear hX6
  have hM10 := Lib.hid ((hM0.out.below hb7).mono hb7.size)
  clear hM0
  clear hX9
  clear hM10
  clear hK8
  obtain ⟨gL, oL, rfl, cL⟩ := Texts.cellT hL7.out HX.out
  clear hL7
  rw [← hSS.out] at cL
  go_wp2
  go_loop [12] (fun i => ∃ m : Nat, m ≤ j + 1 ∧ i = .int .i64 m) (fun i => j + 1 - (intOf i).toNat)
  case atStart => exact ⟨0, by omega, rfl⟩
  case round =>
    obtain ⟨m, hm, rfl⟩ := hrel
    by_cases hlt : m < j + 1
    · have hmS : m < S.size := by omega
      have hq := HC.out m hmS
      obtain ⟨c, hc⟩ : ∃ c, S[m]'hmS = c := ⟨_, rfl⟩
      rw [hc] at hq
      have qb : ((c.toNat : Int) == 44) = false := beq_eq_false_iff_ne.2 (fun e => hq (UInt8.toNat_inj.1 (by have : (44 : UInt8).toNat = 44 := rfl; omega)))
      clear hq
      go_wp2
      exact ⟨⟨m + 1, by omega, by go_num⟩, by simp [intOf]; omega⟩
    · obtain rfl : m = j + 1 := by omega
      go_wp2
      go_ret
      exact ⟨rfl, hkc7.below⟩

theorem law_TokenSplit (a b : ByteArray) (i : Int) (_h0 : a.size ≤ 140737488351232) (_h1 : b.size ≤ 140737488351232) (_h2 : (Lit.int .i64 i).wf = true) (w : World) (hG : Good w) :
    Calls Tryd.prog 6 #[.string a, .string b, .int .i64 i] w fun e w' => e = .returned (.bool true) ∧ Below w.heap.size w w' := by
  rcases Nat.lt_or_ge 300 a.size with h_a | h_a
  · exact ts_long_a a b i w hG h_a
  · rcases Nat.lt_or_ge 300 b.size with h_b | h_b
    · exact ts_long_b a b i w hG h_a h_b
    · rcases Int.lt_or_le i 0 with hi | hi
      · exact ts_neg a b i w hG h_a h_b hi
      · rcases Int.lt_or_le i (splitT a.data.toList).length with hj | hj
        · obtain ⟨k, rfl⟩ : ∃ k : Nat, i = k := ⟨i.toNat, by omega⟩
          have hk : k < (splitT a.data.toList).length := by omega
          by_cases he : (splitT a.data.toList)[k] = []
          · exact ts_empty a b k _ w hG h_a h_b (List.getElem?_eq_getElem hk) he
          · exact ts_full a b k _ w hG h_a h_b (List.getElem?_eq_getElem hk) he
        · exact ts_out a b i w hG h_a h_b hi hj

end Go.Proofs.YtnppnogmpoigkaaDoor
