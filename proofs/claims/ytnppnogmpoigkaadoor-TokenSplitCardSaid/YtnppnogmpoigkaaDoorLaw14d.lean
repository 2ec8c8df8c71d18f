/- The laws TokenPolicy, TokenTold, walked over the contracts. -/
import Derived.Test.YtnppnogmpoigkaaDoorTokQ
import Derived.Test.YtnppnogmpoigkaaDoorHead0
import Derived.Test.YtnppnogmpoigkaaDoorHead5c
namespace Go.Proofs.YtnppnogmpoigkaaDoor
open Go.RowKit Go.Proofs.YtnppnogmpoigkaaDoorW.PrintWords
set_option linter.unusedVariables false
set_option linter.unnecessarySimpa false
set_option linter.unusedSimpArgs false

theorem Flds.faT {n₀ : Nat} {w : World} {ao : Option Addr} {cap : Nat} {l : List Fld} (h : Flds n₀ w (.slice ao l.length cap) l) : FldsAt n₀ w ao l := by
  obtain ⟨ao', cap', e, h⟩ := h.at_
  obtain ⟨rfl, _, rfl⟩ := Value.slice.inj e
  exact h
theorem Texts.shapeT {n₀ : Nat} {w : World} {sv : Value} {l : List (List UInt8)} (h : Texts n₀ w sv l) : ∃ ao cap, sv = .slice ao l.length cap := by
  obtain ⟨ao, cap, e, _⟩ := h.at_
  exact ⟨ao, cap, e⟩
theorem get_lenT {L : List Fld} (h1 : L.length ≤ 61) (h2 : ∀ x ∈ L, x.1.length ≤ 300 ∧ x.2.length ≤ 300) (n : List UInt8) : (getL n L).length ≤ 999998 := by
  unfold getL
  refine Nat.le_trans (inter_le comma 300 _ (fun x hx => allL_le (m := 300) h2 x hx)) ?_
  have h3 := allL_len n L
  have h4 : (allL n L).length * (300 + comma.length) ≤ 61 * (300 + comma.length) := Nat.mul_le_mul_right _ (by omega)
  exact Nat.le_trans h4 (by decide)
theorem Texts.taT {n₀ : Nat} {w : World} {ao : Option Addr} {cap n : Nat} {l : List (List UInt8)} (h : Texts n₀ w (.slice ao n cap) l) : TextsAt n₀ w ao l := by
  obtain ⟨ao', cap', e, h⟩ := h.at_
  obtain ⟨rfl, _, rfl⟩ := Value.slice.inj e
  exact h
theorem texts_new (w : World) (l : List (List UInt8)) {cap : Nat} : Texts (w.alloc (.cells (strs l).toArray 9)).heap.size (w.alloc (.cells (strs l).toArray 9)) (.slice (some ⟨w.heap.size, 0, none⟩) l.length cap) l :=
  texts_row (heap_alloc_new w (.cells (strs l).toArray 9)) (by rw [World.size_alloc]; exact Nat.lt_succ_self _)
def rpL : List UInt8 := [114, 101, 102, 101, 114, 114, 101, 114, 45, 112, 111, 108, 105, 99, 121]
theorem rp_low (n : List UInt8) : sameN n rpL = sameN n rpN := by
  have : lowL rpL = lowL rpN := by decide
  unfold sameN
  rw [this]

set_option maxHeartbeats 8000000 in
set_option maxRecDepth 100000 in
theorem tp_long_s (s x : ByteArray) (w : World) (hG : Good w) (h_s : 100 < s.size) :
    Calls Tryd.prog 7 #[.string s, .string x] w fun e w' => e = .returned (.bool true) ∧ Below w.heap.size w w' := by
  have d_s : decide ((100 : Int) < (s.size : Int)) = true := decide_eq_true (by omega)
  have e_s : decide (100 < s.size) = true := decide_eq_true (by omega)
  clear h_s
  have hk0 := Ok.refl hG
  go_enter Tryd.func7, Tryd.ntmps7
  go_wp2_with fail
  refine (awake14 w hk0.good).mono ?_
  rintro e w1 ⟨rfl, hb1⟩
  have hkc1 := hk0.step hb1
  go_wp2
  go_ret
  exact ⟨rfl, hkc1.below⟩

set_option maxHeartbeats 8000000 in
set_option maxRecDepth 100000 in
theorem tp_long_x (s x : ByteArray) (w : World) (hG : Good w) (h_s : s.size ≤ 100) (h_x : 100 < x.size) :
    Calls Tryd.prog 7 #[.string s, .string x] w fun e w' => e = .returned (.bool true) ∧ Below w.heap.size w w' := by
  have d_s : decide ((100 : Int) < (s.size : Int)) = false := decide_eq_false (by omega)
  have e_s : decide (100 < s.size) = false := decide_eq_false (by omega)
  have d_x : decide ((100 : Int) < (x.size : Int)) = true := decide_eq_true (by omega)
  have e_x : decide (100 < x.size) = true := decide_eq_true (by omega)
  clear h_s
  clear h_x
  have hk0 := Ok.refl hG
  go_enter Tryd.func7, Tryd.ntmps7
  go_wp2_with fail
  refine (awake14 w hk0.good).mono ?_
  rintro e w1 ⟨rfl, hb1⟩
  have hkc1 := hk0.step hb1
  go_wp2
  go_ret
  exact ⟨rfl, hkc1.below⟩

set_option maxHeartbeats 8000000 in
set_option maxRecDepth 100000 in
theorem tp_11 (s x : ByteArray) (w : World) (hG : Good w) (h_s : s.size ≤ 100) (h_x : x.size ≤ 100) (hp : polOf s.data.toList = 0) (hx : x.data.toList = []) :
    Calls Tryd.prog 7 #[.string s, .string x] w fun e w' => e = .returned (.bool true) ∧ Below w.heap.size w w' := by
  have hes : s = ⟨s.data.toList.toArray⟩ := rfl
  have hsl := size_list s
  have hxl := size_list x
  have e1 : (s ++ x : ByteArray) = ⟨(s.data.toList ++ x.data.toList).toArray⟩ := toList_inj (by simp [ByteArray.data_append])
  have e2 : (s ++ ⟨#[44]⟩ : ByteArray).data.toList = s.data.toList ++ [44] := by simp [ByteArray.data_append]
  have z2 := congrArg List.length e2
  simp only [List.length_append, List.length_cons, List.length_nil, ← size_list] at z2
  have cP := fun w1 (hG : Good w1) => tok_Policy_any s.data.toList (by omega) w1 hG
  rw [← hes] at cP
  have cQ := fun w1 (hG : Good w1) => tok_Policy_any (s.data.toList ++ x.data.toList) (by rw [List.length_append]; omega) w1 hG
  rw [← e1] at cQ
  have cL := fun w1 (hG : Good w1) => tok_Last_any s (by omega) w1 hG
  have cL1 := fun w1 (hG : Good w1) => tok_Last_any (s ++ ⟨#[44]⟩) (by omega) w1 hG
  rw [e2, last_comma] at cL1
  have hp9 := (pol_hit s.data.toList).1
  have cN := fun w1 (hG : Good w1) => (tok_Name_any (polOf s.data.toList : Nat) w1 hG).mono fun e w' (h : _ ∧ w' = w1) => (⟨h.1, by rw [h.2]; exact Below.refl _ _⟩ : _ ∧ Below w1.heap.size w1 w')
  have hq9 := (pol_hit (s.data.toList ++ x.data.toList)).1
  generalize lastP (splitT s.data.toList) = lp at *
  clear e1 e2 z2 hes
  have xe : x.toList.isEmpty = true := by rw [ba_toList]; rw [hx]; rfl
  rw [hp] at cP
  clear hp hp9 hq9 hx cN
  generalize polOf (s.data.toList ++ x.data.toList) = q at *
  have d_s : decide ((100 : Int) < (s.size : Int)) = false := decide_eq_false (by omega)
  have e_s : decide (100 < s.size) = false := decide_eq_false (by omega)
  have d_x : decide ((100 : Int) < (x.size : Int)) = false := decide_eq_false (by omega)
  have e_x : decide (100 < x.size) = false := decide_eq_false (by omega)
  clear hsl hxl
  have hk0 := Ok.refl hG
  go_enter Tryd.func7, Tryd.ntmps7
  go_wp2_with fail
  refine (awake14 w hk0.good).mono ?_
  rintro e w1 ⟨rfl, hb1⟩
  have hkc1 := hk0.step hb1
  go_wp2_with fail
  refine (cP w1 hkc1.good).mono ?_
  rintro e w2 ⟨rfl, hb2⟩
  have hkc2 := hkc1.step hb2
  go_wp2_with fail
  refine (cQ w2 hkc2.good).mono ?_
  rintro e w3 ⟨rfl, hb3⟩
  have hkc3 := hkc2.step hb3
  go_wp2_with fail
  refine (cL1 w3 hkc3.good).mono ?_
  rintro e w4 ⟨rfl, hb4⟩
  have hkc4 := hkc3.step hb4
  go_wp2_with fail
  refine (cL w4 hkc4.good).mono ?_
  rintro e w5 ⟨rfl, hb5⟩
  have hkc5 := hkc4.step hb5
  go_wp2
  go_ret
  exact ⟨rfl, hkc5.below⟩

set_option maxHeartbeats 8000000 in
set_option maxRecDepth 100000 in
theorem tp_10 (s x : ByteArray) (w : World) (hG : Good w) (h_s : s.size ≤ 100) (h_x : x.size ≤ 100) (hp : polOf s.data.toList = 0) (hx : x.data.toList ≠ []) :
    Calls Tryd.prog 7 #[.string s, .string x] w fun e w' => e = .returned (.bool true) ∧ Below w.heap.size w w' := by
  have hes : s = ⟨s.data.toList.toArray⟩ := rfl
  have hsl := size_list s
  have hxl := size_list x
  have e1 : (s ++ x : ByteArray) = ⟨(s.data.toList ++ x.data.toList).toArray⟩ := toList_inj (by simp [ByteArray.data_append])
  have e2 : (s ++ ⟨#[44]⟩ : ByteArray).data.toList = s.data.toList ++ [44] := by simp [ByteArray.data_append]
  have z2 := congrArg List.length e2
  simp only [List.length_append, List.length_cons, List.length_nil, ← size_list] at z2
  have cP := fun w1 (hG : Good w1) => tok_Policy_any s.data.toList (by omega) w1 hG
  rw [← hes] at cP
  have cQ := fun w1 (hG : Good w1) => tok_Policy_any (s.data.toList ++ x.data.toList) (by rw [List.length_append]; omega) w1 hG
  rw [← e1] at cQ
  have cL := fun w1 (hG : Good w1) => tok_Last_any s (by omega) w1 hG
  have cL1 := fun w1 (hG : Good w1) => tok_Last_any (s ++ ⟨#[44]⟩) (by omega) w1 hG
  rw [e2, last_comma] at cL1
  have hp9 := (pol_hit s.data.toList).1
  have cN := fun w1 (hG : Good w1) => (tok_Name_any (polOf s.data.toList : Nat) w1 hG).mono fun e w' (h : _ ∧ w' = w1) => (⟨h.1, by rw [h.2]; exact Below.refl _ _⟩ : _ ∧ Below w1.heap.size w1 w')
  have hq9 := (pol_hit (s.data.toList ++ x.data.toList)).1
  generalize lastP (splitT s.data.toList) = lp at *
  clear e1 e2 z2 hes
  have xe : x.toList.isEmpty = false := by rw [ba_toList]; exact List.isEmpty_eq_false_iff.2 hx
  rw [hp] at cP
  clear hp hp9 hq9 hx cN
  generalize polOf (s.data.toList ++ x.data.toList) = q at *
  have d_s : decide ((100 : Int) < (s.size : Int)) = false := decide_eq_false (by omega)
  have e_s : decide (100 < s.size) = false := decide_eq_false (by omega)
  have d_x : decide ((100 : Int) < (x.size : Int)) = false := decide_eq_false (by omega)
  have e_x : decide (100 < x.size) = false := decide_eq_false (by omega)
  clear hsl hxl
  have hk0 := Ok.refl hG
  go_enter Tryd.func7, Tryd.ntmps7
  go_wp2_with fail
  refine (awake14 w hk0.good).mono ?_
  rintro e w1 ⟨rfl, hb1⟩
  have hkc1 := hk0.step hb1
  go_wp2_with fail
  refine (cP w1 hkc1.good).mono ?_
  rintro e w2 ⟨rfl, hb2⟩
  have hkc2 := hkc1.step hb2
  go_wp2_with fail
  refine (cQ w2 hkc2.good).mono ?_
  rintro e w3 ⟨rfl, hb3⟩
  have hkc3 := hkc2.step hb3
  go_wp2_with fail
  refine (cL1 w3 hkc3.good).mono ?_
  rintro e w4 ⟨rfl, hb4⟩
  have hkc4 := hkc3.step hb4
  go_wp2_with fail
  refine (cL w4 hkc4.good).mono ?_
  rintro e w5 ⟨rfl, hb5⟩
  have hkc5 := hkc4.step hb5
  go_wp2
  go_ret
  exact ⟨rfl, hkc5.below⟩

set_option maxHeartbeats 8000000 in
set_option maxRecDepth 100000 in
theorem tp_01 (s x : ByteArray) (w : World) (hG : Good w) (h_s : s.size ≤ 100) (h_x : x.size ≤ 100) (hp : polOf s.data.toList ≠ 0) (hx : x.data.toList = []) :
    Calls Tryd.prog 7 #[.string s, .string x] w fun e w' => e = .returned (.bool true) ∧ Below w.heap.size w w' := by
  have hes : s = ⟨s.data.toList.toArray⟩ := rfl
  have hsl := size_list s
  have hxl := size_list x
  have e1 : (s ++ x : ByteArray) = ⟨(s.data.toList ++ x.data.toList).toArray⟩ := toList_inj (by simp [ByteArray.data_append])
  have e2 : (s ++ ⟨#[44]⟩ : ByteArray).data.toList = s.data.toList ++ [44] := by simp [ByteArray.data_append]
  have z2 := congrArg List.length e2
  simp only [List.length_append, List.length_cons, List.length_nil, ← size_list] at z2
  have cP := fun w1 (hG : Good w1) => tok_Policy_any s.data.toList (by omega) w1 hG
  rw [← hes] at cP
  have cQ := fun w1 (hG : Good w1) => tok_Policy_any (s.data.toList ++ x.data.toList) (by rw [List.length_append]; omega) w1 hG
  rw [← e1] at cQ
  have cL := fun w1 (hG : Good w1) => tok_Last_any s (by omega) w1 hG
  have cL1 := fun w1 (hG : Good w1) => tok_Last_any (s ++ ⟨#[44]⟩) (by omega) w1 hG
  rw [e2, last_comma] at cL1
  have hp9 := (pol_hit s.data.toList).1
  have cN := fun w1 (hG : Good w1) => (tok_Name_any (polOf s.data.toList : Nat) w1 hG).mono fun e w' (h : _ ∧ w' = w1) => (⟨h.1, by rw [h.2]; exact Below.refl _ _⟩ : _ ∧ Below w1.heap.size w1 w')
  have hpl := pol_length hp
  have hnl : (⟨(polName (polOf s.data.toList : Nat)).toArray⟩ : ByteArray).size = s.size := by rw [ba_len, hpl, hsl]
  generalize (⟨(polName (polOf s.data.toList : Nat)).toArray⟩ : ByteArray) = PN at *
  generalize lastP (splitT s.data.toList) = lp at *
  clear e1 e2 z2 hes
  have xe : x.toList.isEmpty = true := by rw [ba_toList]; rw [hx]; rfl
  generalize polOf s.data.toList = p at *
  generalize polOf (s.data.toList ++ x.data.toList) = q at *
  have p1 : ((p : Int) == 0) = false := beq_eq_false_iff_ne.2 (by omega)
  have p2 : (p == 0) = false := beq_eq_false_iff_ne.2 hp
  have p3 : decide ((p : Int) < 9) = true := decide_eq_true (by omega)
  have p4 : decide (p < 9) = true := decide_eq_true hp9
  have n1 : ((PN.size : Int) == (s.size : Int)) = true := beq_iff_eq.2 (by omega)
  have n2 : (PN.size == s.size) = true := beq_iff_eq.2 hnl
  clear hp hx hnl hpl hp9
  have d_s : decide ((100 : Int) < (s.size : Int)) = false := decide_eq_false (by omega)
  have e_s : decide (100 < s.size) = false := decide_eq_false (by omega)
  have d_x : decide ((100 : Int) < (x.size : Int)) = false := decide_eq_false (by omega)
  have e_x : decide (100 < x.size) = false := decide_eq_false (by omega)
  clear hsl hxl
  have hk0 := Ok.refl hG
  go_enter Tryd.func7, Tryd.ntmps7
  go_wp2_with fail
  refine (awake14 w hk0.good).mono ?_
  rintro e w1 ⟨rfl, hb1⟩
  have hkc1 := hk0.step hb1
  go_wp2_with fail
  refine (cP w1 hkc1.good).mono ?_
  rintro e w2 ⟨rfl, hb2⟩
  have hkc2 := hkc1.step hb2
  go_wp2_with fail
  refine (cQ w2 hkc2.good).mono ?_
  rintro e w3 ⟨rfl, hb3⟩
  have hkc3 := hkc2.step hb3
  go_wp2_with fail
  refine (cN w3 hkc3.good).mono ?_
  rintro e w4 ⟨rfl, hb4⟩
  have hkc4 := hkc3.step hb4
  go_wp2_with fail
  refine (cL1 w4 hkc4.good).mono ?_
  rintro e w5 ⟨rfl, hb5⟩
  have hkc5 := hkc4.step hb5
  go_wp2_with fail
  refine (cL w5 hkc5.good).mono ?_
  rintro e w6 ⟨rfl, hb6⟩
  have hkc6 := hkc5.step hb6
  go_wp2
  go_ret
  exact ⟨rfl, hkc6.below⟩

set_option maxHeartbeats 8000000 in
set_option maxRecDepth 100000 in
theorem tp_00 (s x : ByteArray) (w : World) (hG : Good w) (h_s : s.size ≤ 100) (h_x : x.size ≤ 100) (hp : polOf s.data.toList ≠ 0) (hx : x.data.toList ≠ []) :
    Calls Tryd.prog 7 #[.string s, .string x] w fun e w' => e = .returned (.bool true) ∧ Below w.heap.size w w' := by
  have hes : s = ⟨s.data.toList.toArray⟩ := rfl
  have hsl := size_list s
  have hxl := size_list x
  have e1 : (s ++ x : ByteArray) = ⟨(s.data.toList ++ x.data.toList).toArray⟩ := toList_inj (by simp [ByteArray.data_append])
  have e2 : (s ++ ⟨#[44]⟩ : ByteArray).data.toList = s.data.toList ++ [44] := by simp [ByteArray.data_append]
  have z2 := congrArg List.length e2
  simp only [List.length_append, List.length_cons, List.length_nil, ← size_list] at z2
  have cP := fun w1 (hG : Good w1) => tok_Policy_any s.data.toList (by omega) w1 hG
  rw [← hes] at cP
  have cQ := fun w1 (hG : Good w1) => tok_Policy_any (s.data.toList ++ x.data.toList) (by rw [List.length_append]; omega) w1 hG
  rw [← e1] at cQ
  have cL := fun w1 (hG : Good w1) => tok_Last_any s (by omega) w1 hG
  have cL1 := fun w1 (hG : Good w1) => tok_Last_any (s ++ ⟨#[44]⟩) (by omega) w1 hG
  rw [e2, last_comma] at cL1
  have hp9 := (pol_hit s.data.toList).1
  have cN := fun w1 (hG : Good w1) => (tok_Name_any (polOf s.data.toList : Nat) w1 hG).mono fun e w' (h : _ ∧ w' = w1) => (⟨h.1, by rw [h.2]; exact Below.refl _ _⟩ : _ ∧ Below w1.heap.size w1 w')
  have hpl := pol_length hp
  have hnl : (⟨(polName (polOf s.data.toList : Nat)).toArray⟩ : ByteArray).size = s.size := by rw [ba_len, hpl, hsl]
  have hqp : polOf (s.data.toList ++ x.data.toList) ≠ polOf s.data.toList := fun e => by
    have h1 := pol_length (s := s.data.toList ++ x.data.toList) (by rw [e]; exact hp)
    rw [e, hpl, List.length_append] at h1
    exact hx (List.eq_nil_of_length_eq_zero (by omega))
  generalize (⟨(polName (polOf s.data.toList : Nat)).toArray⟩ : ByteArray) = PN at *
  generalize lastP (splitT s.data.toList) = lp at *
  clear e1 e2 z2 hes
  have xe : x.toList.isEmpty = false := by rw [ba_toList]; exact List.isEmpty_eq_false_iff.2 hx
  generalize polOf s.data.toList = p at *
  generalize polOf (s.data.toList ++ x.data.toList) = q at *
  have p1 : ((p : Int) == 0) = false := beq_eq_false_iff_ne.2 (by omega)
  have p2 : (p == 0) = false := beq_eq_false_iff_ne.2 hp
  have p3 : decide ((p : Int) < 9) = true := decide_eq_true (by omega)
  have p4 : decide (p < 9) = true := decide_eq_true hp9
  have n1 : ((PN.size : Int) == (s.size : Int)) = true := beq_iff_eq.2 (by omega)
  have n2 : (PN.size == s.size) = true := beq_iff_eq.2 hnl
  have q1 : ((q : Int) != (p : Int)) = true := bne_iff_ne.2 (by omega)
  have q2 : (q != p) = true := bne_iff_ne.2 hqp
  clear hqp
  clear hp hx hnl hpl hp9
  have d_s : decide ((100 : Int) < (s.size : Int)) = false := decide_eq_false (by omega)
  have e_s : decide (100 < s.size) = false := decide_eq_false (by omega)
  have d_x : decide ((100 : Int) < (x.size : Int)) = false := decide_eq_false (by omega)
  have e_x : decide (100 < x.size) = false := decide_eq_false (by omega)
  clear hsl hxl
  have hk0 := Ok.refl hG
  go_enter Tryd.func7, Tryd.ntmps7
  go_wp2_with fail
  refine (awake14 w hk0.good).mono ?_
  rintro e w1 ⟨rfl, hb1⟩
  have hkc1 := hk0.step hb1
  go_wp2_with fail
  refine (cP w1 hkc1.good).mono ?_
  rintro e w2 ⟨rfl, hb2⟩
  have hkc2 := hkc1.step hb2
  go_wp2_with fail
  refine (cQ w2 hkc2.good).mono ?_
  rintro e w3 ⟨rfl, hb3⟩
  have hkc3 := hkc2.step hb3
  go_wp2_with fail
  refine (cN w3 hkc3.good).mono ?_
  rintro e w4 ⟨rfl, hb4⟩
  have hkc4 := hkc3.step hb4
  go_wp2_with fail
  refine (cL1 w4 hkc4.good).mono ?_
  rintro e w5 ⟨rfl, hb5⟩
  have hkc5 := hkc4.step hb5
  go_wp2_with fail
  refine (cL w5 hkc5.good).mono ?_
  rintro e w6 ⟨rfl, hb6⟩
  have hkc6 := hkc5.step hb6
  go_wp2
  go_ret
  exact ⟨rfl, hkc6.below⟩

theorem law_TokenPolicy (s x : ByteArray) (_h0 : s.size ≤ 140737488351232) (_h1 : x.size ≤ 140737488351232) (w : World) (hG : Good w) :
    Calls Tryd.prog 7 #[.string s, .string x] w fun e w' => e = .returned (.bool true) ∧ Below w.heap.size w w' := by
  rcases Nat.lt_or_ge 100 s.size with h_s | h_s
  · exact tp_long_s s x w hG h_s
  · rcases Nat.lt_or_ge 100 x.size with h_x | h_x
    · exact tp_long_x s x w hG h_s h_x
    · by_cases hp : polOf s.data.toList = 0 <;> by_cases hx : x.data.toList = []
      · exact tp_11 s x w hG h_s h_x hp hx
      · exact tp_10 s x w hG h_s h_x hp hx
      · exact tp_01 s x w hG h_s h_x hp hx
      · exact tp_00 s x w hG h_s h_x hp hx

set_option maxHeartbeats 8000000 in
set_option maxRecDepth 100000 in
theorem td_few (aoA : Option Addr) (caA : Nat) (A : List Fld) (n v : ByteArray) (w : World) (hG : Good w) (hA0 : Hid (Flds w.heap.size w (.slice aoA A.length caA) A))
    (cFA : ∀ w1 : World, Flds w1.heap.size w1 (.slice aoA A.length caA) A → Calls Tryd.prog 10 #[.slice aoA A.length caA] w1 fun e w' => e = .returned (.bool false) ∧ Below w1.heap.size w1 w') :
    Calls Tryd.prog 8 #[.slice aoA A.length caA, .string n, .string v] w fun e w' => e = .returned (.bool true) ∧ Below w.heap.size w w' := by
  have hk0 := Ok.refl hG
  go_enter Tryd.func8, Tryd.ntmps8
  go_wp2_with fail
  refine (awake14 w hk0.good).mono ?_
  rintro e w1 ⟨rfl, hb1⟩
  have hkc1 := hk0.step hb1
  have hA1 := Lib.hid ((hA0.out.below hb1).mono hb1.size)
  clear hA0
  go_wp2_with fail
  refine (cFA w1 hA1.out).mono ?_
  rintro e w2 ⟨rfl, hb2⟩
  have hkc2 := hkc1.step hb2
  have hA2 := Lib.hid ((hA1.out.below hb2).mono hb2.size)
  clear hA1
  go_wp2
  go_ret
  exact ⟨rfl, hkc2.below⟩

set_option maxHeartbeats 8000000 in
set_option maxRecDepth 100000 in
theorem td_ln (aoA : Option Addr) (caA : Nat) (A : List Fld) (n v : ByteArray) (w : World) (hG : Good w) (hA0 : Hid (Flds w.heap.size w (.slice aoA A.length caA) A))
    (cFA : ∀ w1 : World, Flds w1.heap.size w1 (.slice aoA A.length caA) A → Calls Tryd.prog 10 #[.slice aoA A.length caA] w1 fun e w' => e = .returned (.bool true) ∧ Below w1.heap.size w1 w') (h_n : 300 < n.size) :
    Calls Tryd.prog 8 #[.slice aoA A.length caA, .string n, .string v] w fun e w' => e = .returned (.bool true) ∧ Below w.heap.size w w' := by
  have d_n : decide ((300 : Int) < (n.size : Int)) = true := decide_eq_true (by omega)
  have e_n : decide (300 < n.size) = true := decide_eq_true (by omega)
  clear h_n
  have hk0 := Ok.refl hG
  go_enter Tryd.func8, Tryd.ntmps8
  go_wp2_with fail
  refine (awake14 w hk0.good).mono ?_
  rintro e w1 ⟨rfl, hb1⟩
  have hkc1 := hk0.step hb1
  have hA1 := Lib.hid ((hA0.out.below hb1).mono hb1.size)
  clear hA0
  go_wp2_with fail
  refine (cFA w1 hA1.out).mono ?_
  rintro e w2 ⟨rfl, hb2⟩
  have hkc2 := hkc1.step hb2
  have hA2 := Lib.hid ((hA1.out.below hb2).mono hb2.size)
  clear hA1
  go_wp2
  go_ret
  exact ⟨rfl, hkc2.below⟩

set_option maxHeartbeats 8000000 in
set_option maxRecDepth 100000 in
theorem td_lv (aoA : Option Addr) (caA : Nat) (A : List Fld) (n v : ByteArray) (w : World) (hG : Good w) (hA0 : Hid (Flds w.heap.size w (.slice aoA A.length caA) A))
    (cFA : ∀ w1 : World, Flds w1.heap.size w1 (.slice aoA A.length caA) A → Calls Tryd.prog 10 #[.slice aoA A.length caA] w1 fun e w' => e = .returned (.bool true) ∧ Below w1.heap.size w1 w') (h_n : n.size ≤ 300) (h_v : 300 < v.size) :
    Calls Tryd.prog 8 #[.slice aoA A.length caA, .string n, .string v] w fun e w' => e = .returned (.bool true) ∧ Below w.heap.size w w' := by
  have d_n : decide ((300 : Int) < (n.size : Int)) = false := decide_eq_false (by omega)
  have e_n : decide (300 < n.size) = false := decide_eq_false (by omega)
  have d_v : decide ((300 : Int) < (v.size : Int)) = true := decide_eq_true (by omega)
  have e_v : decide (300 < v.size) = true := decide_eq_true (by omega)
  clear h_n h_v
  have hk0 := Ok.refl hG
  go_enter Tryd.func8, Tryd.ntmps8
  go_wp2_with fail
  refine (awake14 w hk0.good).mono ?_
  rintro e w1 ⟨rfl, hb1⟩
  have hkc1 := hk0.step hb1
  have hA1 := Lib.hid ((hA0.out.below hb1).mono hb1.size)
  clear hA0
  go_wp2_with fail
  refine (cFA w1 hA1.out).mono ?_
  rintro e w2 ⟨rfl, hb2⟩
  have hkc2 := hkc1.step hb2
  have hA2 := Lib.hid ((hA1.out.below hb2).mono hb2.size)
  clear hA1
  go_wp2
  go_ret
  exact ⟨rfl, hkc2.below⟩

set_option maxHeartbeats 8000000 in
set_option maxRecDepth 100000 in
theorem td_11 (aoA : Option Addr) (caA : Nat) (A : List Fld) (n v : ByteArray) (w : World) (hG : Good w) (hA0 : Hid (Flds w.heap.size w (.slice aoA A.length caA) A))
    (cFA : ∀ w1 : World, Flds w1.heap.size w1 (.slice aoA A.length caA) A → Calls Tryd.prog 10 #[.slice aoA A.length caA] w1 fun e w' => e = .returned (.bool true) ∧ Below w1.heap.size w1 w') (h_n : n.size ≤ 300) (h_v : v.size ≤ 300) (hf : few13 A = true) (ho : sameN n.data.toList rpN = true) (ht : lastP (splitT v.data.toList) = 0) :
    Calls Tryd.prog 8 #[.slice aoA A.length caA, .string n, .string v] w fun e w' => e = .returned (.bool true) ∧ Below w.heap.size w w' := by
  have hnl := size_list n
  have hvl := size_list v
  obtain ⟨f1, f2⟩ := few13_yes hf
  have hal : ∀ f ∈ A, f.1.length ≤ 1000000 ∧ f.2.length ≤ 1000000 := fun f h => ⟨by have := (f2 f h).1; omega, by have := (f2 f h).2; omega⟩
  obtain ⟨M, hM⟩ : ∃ M : List Fld, M = A ++ [(n.data.toList, v.data.toList)] := ⟨_, rfl⟩
  have m1 : M.length ≤ 61 := by rw [hM, List.length_append]; simp only [List.length_cons, List.length_nil]; omega
  have m2 : ∀ x ∈ M, x.1.length ≤ 300 ∧ x.2.length ≤ 300 := by
    intro x hx
    rw [hM] at hx
    rcases List.mem_append.1 hx with hx | hx
    · exact f2 x hx
    · obtain rfl : x = (n.data.toList, v.data.toList) := by simpa using hx
      exact ⟨by show n.data.toList.length ≤ 300; omega, by show v.data.toList.length ≤ 300; omega⟩
  have hgl := get_lenT (by omega) f2 rpN
  have hgm := get_lenT m1 m2 rpN
  have cT := fun w1 (hG : Good w1) (hA : Flds w1.heap.size w1 (.slice aoA A.length caA) A) => tok_Told_any aoA caA A (by omega) hal hgl w1 hG hA.faT
  have cM := fun ao ca w1 (hG : Good w1) (hA : Flds w1.heap.size w1 (.slice ao M.length ca) M) => tok_Told_any ao ca M (by omega) (fun f h => ⟨by have := (m2 f h).1; omega, by have := (m2 f h).2; omega⟩) hgm w1 hG hA.faT
  have hTM : toldL M = toldL A := by rw [hM, told_snoc]; exact if_neg (fun h => h.2 ht)
  rw [hTM] at cM
  have cS := fun w1 => ascii_Same_any n ⟨#[114, 101, 102, 101, 114, 114, 101, 114, 45, 112, 111, 108, 105, 99, 121]⟩ (by omega) (by decide) w1
  change ∀ w1, Calls Tryd.prog 23 #[.string n, .string ⟨#[114, 101, 102, 101, 114, 114, 101, 114, 45, 112, 111, 108, 105, 99, 121]⟩] w1 fun e w' => e = .returned (.bool (sameN n.data.toList rpL)) ∧ Below w1.heap.size w1 w' at cS
  simp only [rp_low, ho] at cS
  have cL := fun w1 (hG : Good w1) => tok_Last_any v (by omega) w1 hG
  have hD := dropL_lenT [rpN] A
  have d2 : ∀ x ∈ dropL [rpN] A, x.1.length ≤ 300 ∧ x.2.length ≤ 300 := fun x hx => f2 x (List.mem_filter.1 hx).1
  have hgd := get_lenT (by omega) d2 rpN
  have cTD := fun ao ca w1 (hG : Good w1) (hA : Flds w1.heap.size w1 (.slice ao (dropL [rpN] A).length ca) (dropL [rpN] A)) => tok_Told_any ao ca (dropL [rpN] A) (by omega) (fun f h => ⟨by have := (d2 f h).1; omega, by have := (d2 f h).2; omega⟩) hgd w1 hG hA.faT
  rw [told_drop] at cTD
  have cD := fun w1 (hA : Flds w1.heap.size w1 (.slice aoA A.length caA) A) ao ca (hN : Texts w1.heap.size w1 (.slice ao [[82, 101, 102, 101, 114, 114, 101, 114, 45, 80, 111, 108, 105, 99, 121]].length ca) [[82, 101, 102, 101, 114, 114, 101, 114, 45, 80, 111, 108, 105, 99, 121]]) => head_Drop_any aoA caA A (by omega) hal ao ca [rpN] (by decide) (by decide) w1 hA.faT (show TextsAt w1.heap.size w1 ao [rpN] from hN.taT)
  rw [ht] at cL
  generalize toldL A = ta at *
  generalize dropL [rpN] A = DL at *
  have d_n : decide ((300 : Int) < (n.size : Int)) = false := decide_eq_false (by omega)
  have e_n : decide (300 < n.size) = false := decide_eq_false (by omega)
  have d_v : decide ((300 : Int) < (v.size : Int)) = false := decide_eq_false (by omega)
  have e_v : decide (300 < v.size) = false := decide_eq_false (by omega)
  have hMM := Lib.hid hM
  clear hM hTM ht ho hf hal hgl hgm m2 hnl hvl hgd d2
  have hk0 := Ok.refl hG
  go_enter Tryd.func8, Tryd.ntmps8
  go_wp2_with fail
  refine (awake14 w hk0.good).mono ?_
  rintro e w1 ⟨rfl, hb1⟩
  have hkc1 := hk0.step hb1
  have hA1 := Lib.hid ((hA0.out.below hb1).mono hb1.size)
  clear hA0
  go_wp2_with fail
  refine (cFA w1 hA1.out).mono ?_
  rintro e w2 ⟨rfl, hb2⟩
  have hkc2 := hkc1.step hb2
  have hA2 := Lib.hid ((hA1.out.below hb2).mono hb2.size)
  clear hA1
  go_wp2_with (at_builtin; refine wpList_appendFs rfl _ _ rfl (w2.heap.size) w2 _ ([]) (A) _ (by rfl) (by rfl) hA2.out (World.ownsRow_nil _ _ _ _) (Nat.le_refl _) (by simp only [List.length_nil, List.length_append, List.length_cons]; omega) ?_)
  intro v3 w3 ho3 hp3
  have hq3 := hp3
  go_wp2_with (at_builtin; refine wpList_appendF rfl _ _ rfl _ (w2.heap.size) w3 _ rfl _ ([] ++ A) (n.data.toList, v.data.toList) (by rfl) (by rfl) ho3 hq3.size (by simp only [List.length_nil, List.length_append, List.length_cons]; omega) ?_)
  intro v4 w4 ho4 hg4 _
  have hp4 := own_below ho3 hq3.size hg4
  have hq4 := hq3.trans hp4
  have hkc4 := hkc2.step hq4
  have hA3 := Lib.hid ((hA2.out.below hq4).mono hq4.size)
  clear hA2
  have hr4 : w4.ownsRow (w2.heap.size) 38 2 v4 (A ++ [(n.data.toList, v.data.toList)]).length (flds (A ++ [(n.data.toList, v.data.toList)])) := by simpa using ho4
  rw [← hMM.out] at hr4
  have hMn := flds_here hr4
  obtain ⟨aoM, caM, rfl⟩ := hMn.shape
  have hM0 := Lib.hid hMn
  clear hMn ho4 hr4
  go_wp2_with fail
  refine (cT w4 hkc4.good hA3.out).mono ?_
  rintro e w5 ⟨rfl, hb5⟩
  have hkc5 := hkc4.step hb5
  have hA4 := Lib.hid ((hA3.out.below hb5).mono hb5.size)
  clear hA3
  have hM5 := Lib.hid ((hM0.out.below hb5).mono hb5.size)
  clear hM0
  go_wp2_with fail
  refine (cM _ _ w5 hkc5.good hM5.out).mono ?_
  rintro e w6 ⟨rfl, hb6⟩
  have hkc6 := hkc5.step hb6
  have hA6 := Lib.hid ((hA4.out.below hb6).mono hb6.size)
  clear hA4
  have hM7 := Lib.hid ((hM5.out.below hb6).mono hb6.size)
  clear hM5
  clear hM7
  go_wp2_with fail
  refine (cS w6).mono ?_
  rintro e w7 ⟨rfl, hb7⟩
  have hkc7 := hkc6.step hb7
  have hA8 := Lib.hid ((hA6.out.below hb7).mono hb7.size)
  clear hA6
  go_wp2_with fail
  refine (cL w7 hkc7.good).mono ?_
  rintro e w8 ⟨rfl, hb8⟩
  have hkc8 := hkc7.step hb8
  have hA9 := Lib.hid ((hA8.out.below hb8).mono hb8.size)
  clear hA8
  have hba10 : Below w8.heap.size w8 (w8.alloc (.cells #[.string ⟨#[82, 101, 102, 101, 114, 114, 101, 114, 45, 80, 111, 108, 105, 99, 121]⟩] 9)) := (Below.refl _ _).alloc (Nat.le_refl _) _
  have hka10 := hkc8.alloc (.cells #[.string ⟨#[82, 101, 102, 101, 114, 114, 101, 114, 45, 80, 111, 108, 105, 99, 121]⟩] 9)
  have hNz := Lib.hid (texts_new w8 [[82, 101, 102, 101, 114, 114, 101, 114, 45, 80, 111, 108, 105, 99, 121]] (cap := 1))
  have hA11 := Lib.hid ((hA9.out.below hba10).mono hba10.size)
  clear hA9
  go_wp2_with fail
  refine (cD (w8.alloc (.cells #[.string ⟨#[82, 101, 102, 101, 114, 114, 101, 114, 45, 80, 111, 108, 105, 99, 121]⟩] 9)) hA11.out _ _ hNz.out).mono ?_
  rintro e w9 ⟨v9, rfl, ho9, hb9⟩
  have hkc9 := hka10.step hb9
  have hA12 := Lib.hid ((hA11.out.below hb9).mono hb9.size)
  clear hA11
  have hN13 := Lib.hid ((hNz.out.below hb9).mono hb9.size)
  clear hNz
  have hDn := flds_here ho9
  obtain ⟨aoD, caD, rfl⟩ := hDn.shape
  have hD0 := Lib.hid hDn
  clear hDn ho9
  clear hN13
  go_wp2_with fail
  refine (cTD _ _ w9 hkc9.good hD0.out).mono ?_
  rintro e w10 ⟨rfl, hb10⟩
  have hkc10 := hkc9.step hb10
  have hA14 := Lib.hid ((hA12.out.below hb10).mono hb10.size)
  clear hA12
  have hD15 := Lib.hid ((hD0.out.below hb10).mono hb10.size)
  clear hD0
  go_wp2
  go_ret
  exact ⟨rfl, hkc10.below⟩

set_option maxHeartbeats 8000000 in
set_option maxRecDepth 100000 in
theorem td_10 (aoA : Option Addr) (caA : Nat) (A : List Fld) (n v : ByteArray) (w : World) (hG : Good w) (hA0 : Hid (Flds w.heap.size w (.slice aoA A.length caA) A))
    (cFA : ∀ w1 : World, Flds w1.heap.size w1 (.slice aoA A.length caA) A → Calls Tryd.prog 10 #[.slice aoA A.length caA] w1 fun e w' => e = .returned (.bool true) ∧ Below w1.heap.size w1 w') (h_n : n.size ≤ 300) (h_v : v.size ≤ 300) (hf : few13 A = true) (ho : sameN n.data.toList rpN = true) (ht : lastP (splitT v.data.toList) ≠ 0) :
    Calls Tryd.prog 8 #[.slice aoA A.length caA, .string n, .string v] w fun e w' => e = .returned (.bool true) ∧ Below w.heap.size w w' := by
  have hnl := size_list n
  have hvl := size_list v
  obtain ⟨f1, f2⟩ := few13_yes hf
  have hal : ∀ f ∈ A, f.1.length ≤ 1000000 ∧ f.2.length ≤ 1000000 := fun f h => ⟨by have := (f2 f h).1; omega, by have := (f2 f h).2; omega⟩
  obtain ⟨M, hM⟩ : ∃ M : List Fld, M = A ++ [(n.data.toList, v.data.toList)] := ⟨_, rfl⟩
  have m1 : M.length ≤ 61 := by rw [hM, List.length_append]; simp only [List.length_cons, List.length_nil]; omega
  have m2 : ∀ x ∈ M, x.1.length ≤ 300 ∧ x.2.length ≤ 300 := by
    intro x hx
    rw [hM] at hx
    rcases List.mem_append.1 hx with hx | hx
    · exact f2 x hx
    · obtain rfl : x = (n.data.toList, v.data.toList) := by simpa using hx
      exact ⟨by show n.data.toList.length ≤ 300; omega, by show v.data.toList.length ≤ 300; omega⟩
  have hgl := get_lenT (by omega) f2 rpN
  have hgm := get_lenT m1 m2 rpN
  have cT := fun w1 (hG : Good w1) (hA : Flds w1.heap.size w1 (.slice aoA A.length caA) A) => tok_Told_any aoA caA A (by omega) hal hgl w1 hG hA.faT
  have cM := fun ao ca w1 (hG : Good w1) (hA : Flds w1.heap.size w1 (.slice ao M.length ca) M) => tok_Told_any ao ca M (by omega) (fun f h => ⟨by have := (m2 f h).1; omega, by have := (m2 f h).2; omega⟩) hgm w1 hG hA.faT
  have hTM : toldL M = lastP (splitT v.data.toList) := by rw [hM, told_snoc]; exact if_pos ⟨ho, ht⟩
  rw [hTM] at cM
  have cS := fun w1 => ascii_Same_any n ⟨#[114, 101, 102, 101, 114, 114, 101, 114, 45, 112, 111, 108, 105, 99, 121]⟩ (by omega) (by decide) w1
  change ∀ w1, Calls Tryd.prog 23 #[.string n, .string ⟨#[114, 101, 102, 101, 114, 114, 101, 114, 45, 112, 111, 108, 105, 99, 121]⟩] w1 fun e w' => e = .returned (.bool (sameN n.data.toList rpL)) ∧ Below w1.heap.size w1 w' at cS
  simp only [rp_low, ho] at cS
  have cL := fun w1 (hG : Good w1) => tok_Last_any v (by omega) w1 hG
  generalize lastP (splitT v.data.toList) = lv at *
  have t1 : ((lv : Int) == 0) = false := beq_eq_false_iff_ne.2 (by omega)
  have t2 : (lv == 0) = false := beq_eq_false_iff_ne.2 ht
  generalize toldL A = ta at *
  have d_n : decide ((300 : Int) < (n.size : Int)) = false := decide_eq_false (by omega)
  have e_n : decide (300 < n.size) = false := decide_eq_false (by omega)
  have d_v : decide ((300 : Int) < (v.size : Int)) = false := decide_eq_false (by omega)
  have e_v : decide (300 < v.size) = false := decide_eq_false (by omega)
  have hMM := Lib.hid hM
  clear hM hTM ht ho hf hal hgl hgm m2 hnl hvl
  have hk0 := Ok.refl hG
  go_enter Tryd.func8, Tryd.ntmps8
  go_wp2_with fail
  refine (awake14 w hk0.good).mono ?_
  rintro e w1 ⟨rfl, hb1⟩
  have hkc1 := hk0.step hb1
  have hA1 := Lib.hid ((hA0.out.below hb1).mono hb1.size)
  clear hA0
  go_wp2_with fail
  refine (cFA w1 hA1.out).mono ?_
  rintro e w2 ⟨rfl, hb2⟩
  have hkc2 := hkc1.step hb2
  have hA2 := Lib.hid ((hA1.out.below hb2).mono hb2.size)
  clear hA1
  go_wp2_with (at_builtin; refine wpList_appendFs rfl _ _ rfl (w2.heap.size) w2 _ ([]) (A) _ (by rfl) (by rfl) hA2.out (World.ownsRow_nil _ _ _ _) (Nat.le_refl _) (by simp only [List.length_nil, List.length_append, List.length_cons]; omega) ?_)
  intro v3 w3 ho3 hp3
  have hq3 := hp3
  go_wp2_with (at_builtin; refine wpList_appendF rfl _ _ rfl _ (w2.heap.size) w3 _ rfl _ ([] ++ A) (n.data.toList, v.data.toList) (by rfl) (by rfl) ho3 hq3.size (by simp only [List.length_nil, List.length_append, List.length_cons]; omega) ?_)
  intro v4 w4 ho4 hg4 _
  have hp4 := own_below ho3 hq3.size hg4
  have hq4 := hq3.trans hp4
  have hkc4 := hkc2.step hq4
  have hA3 := Lib.hid ((hA2.out.below hq4).mono hq4.size)
  clear hA2
  have hr4 : w4.ownsRow (w2.heap.size) 38 2 v4 (A ++ [(n.data.toList, v.data.toList)]).length (flds (A ++ [(n.data.toList, v.data.toList)])) := by simpa using ho4
  rw [← hMM.out] at hr4
  have hMn := flds_here hr4
  obtain ⟨aoM, caM, rfl⟩ := hMn.shape
  have hM0 := Lib.hid hMn
  clear hMn ho4 hr4
  go_wp2_with fail
  refine (cT w4 hkc4.good hA3.out).mono ?_
  rintro e w5 ⟨rfl, hb5⟩
  have hkc5 := hkc4.step hb5
  have hA4 := Lib.hid ((hA3.out.below hb5).mono hb5.size)
  clear hA3
  have hM5 := Lib.hid ((hM0.out.below hb5).mono hb5.size)
  clear hM0
  go_wp2_with fail
  refine (cM _ _ w5 hkc5.good hM5.out).mono ?_
  rintro e w6 ⟨rfl, hb6⟩
  have hkc6 := hkc5.step hb6
  have hA6 := Lib.hid ((hA4.out.below hb6).mono hb6.size)
  clear hA4
  have hM7 := Lib.hid ((hM5.out.below hb6).mono hb6.size)
  clear hM5
  clear hM7
  go_wp2_with fail
  refine (cS w6).mono ?_
  rintro e w7 ⟨rfl, hb7⟩
  have hkc7 := hkc6.step hb7
  have hA8 := Lib.hid ((hA6.out.below hb7).mono hb7.size)
  clear hA6
  go_wp2_with fail
  refine (cL w7 hkc7.good).mono ?_
  rintro e w8 ⟨rfl, hb8⟩
  have hkc8 := hkc7.step hb8
  have hA9 := Lib.hid ((hA8.out.below hb8).mono hb8.size)
  clear hA8
  go_wp2
  go_ret
  exact ⟨rfl, hkc8.below⟩

set_option maxHeartbeats 8000000 in
set_option maxRecDepth 100000 in
theorem td_01 (aoA : Option Addr) (caA : Nat) (A : List Fld) (n v : ByteArray) (w : World) (hG : Good w) (hA0 : Hid (Flds w.heap.size w (.slice aoA A.length caA) A))
    (cFA : ∀ w1 : World, Flds w1.heap.size w1 (.slice aoA A.length caA) A → Calls Tryd.prog 10 #[.slice aoA A.length caA] w1 fun e w' => e = .returned (.bool true) ∧ Below w1.heap.size w1 w') (h_n : n.size ≤ 300) (h_v : v.size ≤ 300) (hf : few13 A = true) (ho : sameN n.data.toList rpN = false) (ht : lastP (splitT v.data.toList) = 0) :
    Calls Tryd.prog 8 #[.slice aoA A.length caA, .string n, .string v] w fun e w' => e = .returned (.bool true) ∧ Below w.heap.size w w' := by
  have hnl := size_list n
  have hvl := size_list v
  obtain ⟨f1, f2⟩ := few13_yes hf
  have hal : ∀ f ∈ A, f.1.length ≤ 1000000 ∧ f.2.length ≤ 1000000 := fun f h => ⟨by have := (f2 f h).1; omega, by have := (f2 f h).2; omega⟩
  obtain ⟨M, hM⟩ : ∃ M : List Fld, M = A ++ [(n.data.toList, v.data.toList)] := ⟨_, rfl⟩
  have m1 : M.length ≤ 61 := by rw [hM, List.length_append]; simp only [List.length_cons, List.length_nil]; omega
  have m2 : ∀ x ∈ M, x.1.length ≤ 300 ∧ x.2.length ≤ 300 := by
    intro x hx
    rw [hM] at hx
    rcases List.mem_append.1 hx with hx | hx
    · exact f2 x hx
    · obtain rfl : x = (n.data.toList, v.data.toList) := by simpa using hx
      exact ⟨by show n.data.toList.length ≤ 300; omega, by show v.data.toList.length ≤ 300; omega⟩
  have hgl := get_lenT (by omega) f2 rpN
  have hgm := get_lenT m1 m2 rpN
  have cT := fun w1 (hG : Good w1) (hA : Flds w1.heap.size w1 (.slice aoA A.length caA) A) => tok_Told_any aoA caA A (by omega) hal hgl w1 hG hA.faT
  have cM := fun ao ca w1 (hG : Good w1) (hA : Flds w1.heap.size w1 (.slice ao M.length ca) M) => tok_Told_any ao ca M (by omega) (fun f h => ⟨by have := (m2 f h).1; omega, by have := (m2 f h).2; omega⟩) hgm w1 hG hA.faT
  have hTM : toldL M = toldL A := by rw [hM, told_snoc]; exact if_neg (fun h => Bool.noConfusion (ho.symm.trans h.1))
  rw [hTM] at cM
  have cS := fun w1 => ascii_Same_any n ⟨#[114, 101, 102, 101, 114, 114, 101, 114, 45, 112, 111, 108, 105, 99, 121]⟩ (by omega) (by decide) w1
  change ∀ w1, Calls Tryd.prog 23 #[.string n, .string ⟨#[114, 101, 102, 101, 114, 114, 101, 114, 45, 112, 111, 108, 105, 99, 121]⟩] w1 fun e w' => e = .returned (.bool (sameN n.data.toList rpL)) ∧ Below w1.heap.size w1 w' at cS
  simp only [rp_low, ho] at cS
  have cL := fun w1 (hG : Good w1) => tok_Last_any v (by omega) w1 hG
  have hD := dropL_lenT [rpN] A
  have d2 : ∀ x ∈ dropL [rpN] A, x.1.length ≤ 300 ∧ x.2.length ≤ 300 := fun x hx => f2 x (List.mem_filter.1 hx).1
  have hgd := get_lenT (by omega) d2 rpN
  have cTD := fun ao ca w1 (hG : Good w1) (hA : Flds w1.heap.size w1 (.slice ao (dropL [rpN] A).length ca) (dropL [rpN] A)) => tok_Told_any ao ca (dropL [rpN] A) (by omega) (fun f h => ⟨by have := (d2 f h).1; omega, by have := (d2 f h).2; omega⟩) hgd w1 hG hA.faT
  rw [told_drop] at cTD
  have cD := fun w1 (hA : Flds w1.heap.size w1 (.slice aoA A.length caA) A) ao ca (hN : Texts w1.heap.size w1 (.slice ao [[82, 101, 102, 101, 114, 114, 101, 114, 45, 80, 111, 108, 105, 99, 121]].length ca) [[82, 101, 102, 101, 114, 114, 101, 114, 45, 80, 111, 108, 105, 99, 121]]) => head_Drop_any aoA caA A (by omega) hal ao ca [rpN] (by decide) (by decide) w1 hA.faT (show TextsAt w1.heap.size w1 ao [rpN] from hN.taT)
  rw [ht] at cL
  generalize toldL A = ta at *
  generalize dropL [rpN] A = DL at *
  have d_n : decide ((300 : Int) < (n.size : Int)) = false := decide_eq_false (by omega)
  have e_n : decide (300 < n.size) = false := decide_eq_false (by omega)
  have d_v : decide ((300 : Int) < (v.size : Int)) = false := decide_eq_false (by omega)
  have e_v : decide (300 < v.size) = false := decide_eq_false (by omega)
  have hMM := Lib.hid hM
  clear hM hTM ht ho hf hal hgl hgm m2 hnl hvl hgd d2
  have hk0 := Ok.refl hG
  go_enter Tryd.func8, Tryd.ntmps8
  go_wp2_with fail
  refine (awake14 w hk0.good).mono ?_
  rintro e w1 ⟨rfl, hb1⟩
  have hkc1 := hk0.step hb1
  have hA1 := Lib.hid ((hA0.out.below hb1).mono hb1.size)
  clear hA0
  go_wp2_with fail
  refine (cFA w1 hA1.out).mono ?_
  rintro e w2 ⟨rfl, hb2⟩
  have hkc2 := hkc1.step hb2
  have hA2 := Lib.hid ((hA1.out.below hb2).mono hb2.size)
  clear hA1
  go_wp2_with (at_builtin; refine wpList_appendFs rfl _ _ rfl (w2.heap.size) w2 _ ([]) (A) _ (by rfl) (by rfl) hA2.out (World.ownsRow_nil _ _ _ _) (Nat.le_refl _) (by simp only [List.length_nil, List.length_append, List.length_cons]; omega) ?_)
  intro v3 w3 ho3 hp3
  have hq3 := hp3
  go_wp2_with (at_builtin; refine wpList_appendF rfl _ _ rfl _ (w2.heap.size) w3 _ rfl _ ([] ++ A) (n.data.toList, v.data.toList) (by rfl) (by rfl) ho3 hq3.size (by simp only [List.length_nil, List.length_append, List.length_cons]; omega) ?_)
  intro v4 w4 ho4 hg4 _
  have hp4 := own_below ho3 hq3.size hg4
  have hq4 := hq3.trans hp4
  have hkc4 := hkc2.step hq4
  have hA3 := Lib.hid ((hA2.out.below hq4).mono hq4.size)
  clear hA2
  have hr4 : w4.ownsRow (w2.heap.size) 38 2 v4 (A ++ [(n.data.toList, v.data.toList)]).length (flds (A ++ [(n.data.toList, v.data.toList)])) := by simpa using ho4
  rw [← hMM.out] at hr4
  have hMn := flds_here hr4
  obtain ⟨aoM, caM, rfl⟩ := hMn.shape
  have hM0 := Lib.hid hMn
  clear hMn ho4 hr4
  go_wp2_with fail
  refine (cT w4 hkc4.good hA3.out).mono ?_
  rintro e w5 ⟨rfl, hb5⟩
  have hkc5 := hkc4.step hb5
  have hA4 := Lib.hid ((hA3.out.below hb5).mono hb5.size)
  clear hA3
  have hM5 := Lib.hid ((hM0.out.below hb5).mono hb5.size)
  clear hM0
  go_wp2_with fail
  refine (cM _ _ w5 hkc5.good hM5.out).mono ?_
  rintro e w6 ⟨rfl, hb6⟩
  have hkc6 := hkc5.step hb6
  have hA6 := Lib.hid ((hA4.out.below hb6).mono hb6.size)
  clear hA4
  have hM7 := Lib.hid ((hM5.out.below hb6).mono hb6.size)
  clear hM5
  clear hM7
  go_wp2_with fail
  refine (cS w6).mono ?_
  rintro e w7 ⟨rfl, hb7⟩
  have hkc7 := hkc6.step hb7
  have hA8 := Lib.hid ((hA6.out.below hb7).mono hb7.size)
  clear hA6
  go_wp2_with fail
  refine (cL w7 hkc7.good).mono ?_
  rintro e w8 ⟨rfl, hb8⟩
  have hkc8 := hkc7.step hb8
  have hA9 := Lib.hid ((hA8.out.below hb8).mono hb8.size)
  clear hA8
  have hba10 : Below w8.heap.size w8 (w8.alloc (.cells #[.string ⟨#[82, 101, 102, 101, 114, 114, 101, 114, 45, 80, 111, 108, 105, 99, 121]⟩] 9)) := (Below.refl _ _).alloc (Nat.le_refl _) _
  have hka10 := hkc8.alloc (.cells #[.string ⟨#[82, 101, 102, 101, 114, 114, 101, 114, 45, 80, 111, 108, 105, 99, 121]⟩] 9)
  have hNz := Lib.hid (texts_new w8 [[82, 101, 102, 101, 114, 114, 101, 114, 45, 80, 111, 108, 105, 99, 121]] (cap := 1))
  have hA11 := Lib.hid ((hA9.out.below hba10).mono hba10.size)
  clear hA9
  go_wp2_with fail
  refine (cD (w8.alloc (.cells #[.string ⟨#[82, 101, 102, 101, 114, 114, 101, 114, 45, 80, 111, 108, 105, 99, 121]⟩] 9)) hA11.out _ _ hNz.out).mono ?_
  rintro e w9 ⟨v9, rfl, ho9, hb9⟩
  have hkc9 := hka10.step hb9
  have hA12 := Lib.hid ((hA11.out.below hb9).mono hb9.size)
  clear hA11
  have hN13 := Lib.hid ((hNz.out.below hb9).mono hb9.size)
  clear hNz
  have hDn := flds_here ho9
  obtain ⟨aoD, caD, rfl⟩ := hDn.shape
  have hD0 := Lib.hid hDn
  clear hDn ho9
  clear hN13
  go_wp2_with fail
  refine (cTD _ _ w9 hkc9.good hD0.out).mono ?_
  rintro e w10 ⟨rfl, hb10⟩
  have hkc10 := hkc9.step hb10
  have hA14 := Lib.hid ((hA12.out.below hb10).mono hb10.size)
  clear hA12
  have hD15 := Lib.hid ((hD0.out.below hb10).mono hb10.size)
  clear hD0
  go_wp2
  go_ret
  exact ⟨rfl, hkc10.below⟩

set_option maxHeartbeats 8000000 in
set_option maxRecDepth 100000 in
theorem td_00 (aoA : Option Addr) (caA : Nat) (A : List Fld) (n v : ByteArray) (w : World) (hG : Good w) (hA0 : Hid (Flds w.heap.size w (.slice aoA A.length caA) A))
    (cFA : ∀ w1 : World, Flds w1.heap.size w1 (.slice aoA A.length caA) A → Calls Tryd.prog 10 #[.slice aoA A.length caA] w1 fun e w' => e = .returned (.bool true) ∧ Below w1.heap.size w1 w') (h_n : n.size ≤ 300) (h_v : v.size ≤ 300) (hf : few13 A = true) (ho : sameN n.data.toList rpN = false) (ht : lastP (splitT v.data.toList) ≠ 0) :
    Calls Tryd.prog 8 #[.slice aoA A.length caA, .string n, .string v] w fun e w' => e = .returned (.bool true) ∧ Below w.heap.size w w' := by
  have hnl := size_list n
  have hvl := size_list v
  obtain ⟨f1, f2⟩ := few13_yes hf
  have hal : ∀ f ∈ A, f.1.length ≤ 1000000 ∧ f.2.length ≤ 1000000 := fun f h => ⟨by have := (f2 f h).1; omega, by have := (f2 f h).2; omega⟩
  obtain ⟨M, hM⟩ : ∃ M : List Fld, M = A ++ [(n.data.toList, v.data.toList)] := ⟨_, rfl⟩
  have m1 : M.length ≤ 61 := by rw [hM, List.length_append]; simp only [List.length_cons, List.length_nil]; omega
  have m2 : ∀ x ∈ M, x.1.length ≤ 300 ∧ x.2.length ≤ 300 := by
    intro x hx
    rw [hM] at hx
    rcases List.mem_append.1 hx with hx | hx
    · exact f2 x hx
    · obtain rfl : x = (n.data.toList, v.data.toList) := by simpa using hx
      exact ⟨by show n.data.toList.length ≤ 300; omega, by show v.data.toList.length ≤ 300; omega⟩
  have hgl := get_lenT (by omega) f2 rpN
  have hgm := get_lenT m1 m2 rpN
  have cT := fun w1 (hG : Good w1) (hA : Flds w1.heap.size w1 (.slice aoA A.length caA) A) => tok_Told_any aoA caA A (by omega) hal hgl w1 hG hA.faT
  have cM := fun ao ca w1 (hG : Good w1) (hA : Flds w1.heap.size w1 (.slice ao M.length ca) M) => tok_Told_any ao ca M (by omega) (fun f h => ⟨by have := (m2 f h).1; omega, by have := (m2 f h).2; omega⟩) hgm w1 hG hA.faT
  have hTM : toldL M = toldL A := by rw [hM, told_snoc]; exact if_neg (fun h => Bool.noConfusion (ho.symm.trans h.1))
  rw [hTM] at cM
  have cS := fun w1 => ascii_Same_any n ⟨#[114, 101, 102, 101, 114, 114, 101, 114, 45, 112, 111, 108, 105, 99, 121]⟩ (by omega) (by decide) w1
  change ∀ w1, Calls Tryd.prog 23 #[.string n, .string ⟨#[114, 101, 102, 101, 114, 114, 101, 114, 45, 112, 111, 108, 105, 99, 121]⟩] w1 fun e w' => e = .returned (.bool (sameN n.data.toList rpL)) ∧ Below w1.heap.size w1 w' at cS
  simp only [rp_low, ho] at cS
  have cL := fun w1 (hG : Good w1) => tok_Last_any v (by omega) w1 hG
  have hD := dropL_lenT [rpN] A
  have d2 : ∀ x ∈ dropL [rpN] A, x.1.length ≤ 300 ∧ x.2.length ≤ 300 := fun x hx => f2 x (List.mem_filter.1 hx).1
  have hgd := get_lenT (by omega) d2 rpN
  have cTD := fun ao ca w1 (hG : Good w1) (hA : Flds w1.heap.size w1 (.slice ao (dropL [rpN] A).length ca) (dropL [rpN] A)) => tok_Told_any ao ca (dropL [rpN] A) (by omega) (fun f h => ⟨by have := (d2 f h).1; omega, by have := (d2 f h).2; omega⟩) hgd w1 hG hA.faT
  rw [told_drop] at cTD
  have cD := fun w1 (hA : Flds w1.heap.size w1 (.slice aoA A.length caA) A) ao ca (hN : Texts w1.heap.size w1 (.slice ao [[82, 101, 102, 101, 114, 114, 101, 114, 45, 80, 111, 108, 105, 99, 121]].length ca) [[82, 101, 102, 101, 114, 114, 101, 114, 45, 80, 111, 108, 105, 99, 121]]) => head_Drop_any aoA caA A (by omega) hal ao ca [rpN] (by decide) (by decide) w1 hA.faT (show TextsAt w1.heap.size w1 ao [rpN] from hN.taT)
  generalize lastP (splitT v.data.toList) = lv at *
  have t1 : ((lv : Int) == 0) = false := beq_eq_false_iff_ne.2 (by omega)
  have t2 : (lv == 0) = false := beq_eq_false_iff_ne.2 ht
  generalize toldL A = ta at *
  generalize dropL [rpN] A = DL at *
  have d_n : decide ((300 : Int) < (n.size : Int)) = false := decide_eq_false (by omega)
  have e_n : decide (300 < n.size) = false := decide_eq_false (by omega)
  have d_v : decide ((300 : Int) < (v.size : Int)) = false := decide_eq_false (by omega)
  have e_v : decide (300 < v.size) = false := decide_eq_false (by omega)
  have hMM := Lib.hid hM
  clear hM hTM ht ho hf hal hgl hgm m2 hnl hvl hgd d2
  have hk0 := Ok.refl hG
  go_enter Tryd.func8, Tryd.ntmps8
  go_wp2_with fail
  refine (awake14 w hk0.good).mono ?_
  rintro e w1 ⟨rfl, hb1⟩
  have hkc1 := hk0.step hb1
  have hA1 := Lib.hid ((hA0.out.below hb1).mono hb1.size)
  clear hA0
  go_wp2_with fail
  refine (cFA w1 hA1.out).mono ?_
  rintro e w2 ⟨rfl, hb2⟩
  have hkc2 := hkc1.step hb2
  have hA2 := Lib.hid ((hA1.out.below hb2).mono hb2.size)
  clear hA1
  go_wp2_with (at_builtin; refine wpList_appendFs rfl _ _ rfl (w2.heap.size) w2 _ ([]) (A) _ (by rfl) (by rfl) hA2.out (World.ownsRow_nil _ _ _ _) (Nat.le_refl _) (by simp only [List.length_nil, List.length_append, List.length_cons]; omega) ?_)
  intro v3 w3 ho3 hp3
  have hq3 := hp3
  go_wp2_with (at_builtin; refine wpList_appendF rfl _ _ rfl _ (w2.heap.size) w3 _ rfl _ ([] ++ A) (n.data.toList, v.data.toList) (by rfl) (by rfl) ho3 hq3.size (by simp only [List.length_nil, List.length_append, List.length_cons]; omega) ?_)
  intro v4 w4 ho4 hg4 _
  have hp4 := own_below ho3 hq3.size hg4
  have hq4 := hq3.trans hp4
  have hkc4 := hkc2.step hq4
  have hA3 := Lib.hid ((hA2.out.below hq4).mono hq4.size)
  clear hA2
  have hr4 : w4.ownsRow (w2.heap.size) 38 2 v4 (A ++ [(n.data.toList, v.data.toList)]).length (flds (A ++ [(n.data.toList, v.data.toList)])) := by simpa using ho4
  rw [← hMM.out] at hr4
  have hMn := flds_here hr4
  obtain ⟨aoM, caM, rfl⟩ := hMn.shape
  have hM0 := Lib.hid hMn
  clear hMn ho4 hr4
  go_wp2_with fail
  refine (cT w4 hkc4.good hA3.out).mono ?_
  rintro e w5 ⟨rfl, hb5⟩
  have hkc5 := hkc4.step hb5
  have hA4 := Lib.hid ((hA3.out.below hb5).mono hb5.size)
  clear hA3
  have hM5 := Lib.hid ((hM0.out.below hb5).mono hb5.size)
  clear hM0
  go_wp2_with fail
  refine (cM _ _ w5 hkc5.good hM5.out).mono ?_
  rintro e w6 ⟨rfl, hb6⟩
  have hkc6 := hkc5.step hb6
  have hA6 := Lib.hid ((hA4.out.below hb6).mono hb6.size)
  clear hA4
  have hM7 := Lib.hid ((hM5.out.below hb6).mono hb6.size)
  clear hM5
  clear hM7
  go_wp2_with fail
  refine (cS w6).mono ?_
  rintro e w7 ⟨rfl, hb7⟩
  have hkc7 := hkc6.step hb7
  have hA8 := Lib.hid ((hA6.out.below hb7).mono hb7.size)
  clear hA6
  go_wp2_with fail
  refine (cL w7 hkc7.good).mono ?_
  rintro e w8 ⟨rfl, hb8⟩
  have hkc8 := hkc7.step hb8
  have hA9 := Lib.hid ((hA8.out.below hb8).mono hb8.size)
  clear hA8
  have hba10 : Below w8.heap.size w8 (w8.alloc (.cells #[.string ⟨#[82, 101, 102, 101, 114, 114, 101, 114, 45, 80, 111, 108, 105, 99, 121]⟩] 9)) := (Below.refl _ _).alloc (Nat.le_refl _) _
  have hka10 := hkc8.alloc (.cells #[.string ⟨#[82, 101, 102, 101, 114, 114, 101, 114, 45, 80, 111, 108, 105, 99, 121]⟩] 9)
  have hNz := Lib.hid (texts_new w8 [[82, 101, 102, 101, 114, 114, 101, 114, 45, 80, 111, 108, 105, 99, 121]] (cap := 1))
  have hA11 := Lib.hid ((hA9.out.below hba10).mono hba10.size)
  clear hA9
  go_wp2_with fail
  refine (cD (w8.alloc (.cells #[.string ⟨#[82, 101, 102, 101, 114, 114, 101, 114, 45, 80, 111, 108, 105, 99, 121]⟩] 9)) hA11.out _ _ hNz.out).mono ?_
  rintro e w9 ⟨v9, rfl, ho9, hb9⟩
  have hkc9 := hka10.step hb9
  have hA12 := Lib.hid ((hA11.out.below hb9).mono hb9.size)
  clear hA11
  have hN13 := Lib.hid ((hNz.out.below hb9).mono hb9.size)
  clear hNz
  have hDn := flds_here ho9
  obtain ⟨aoD, caD, rfl⟩ := hDn.shape
  have hD0 := Lib.hid hDn
  clear hDn ho9
  clear hN13
  go_wp2_with fail
  refine (cTD _ _ w9 hkc9.good hD0.out).mono ?_
  rintro e w10 ⟨rfl, hb10⟩
  have hkc10 := hkc9.step hb10
  have hA14 := Lib.hid ((hA12.out.below hb10).mono hb10.size)
  clear hA12
  have hD15 := Lib.hid ((hD0.out.below hb10).mono hb10.size)
  clear hD0
  go_wp2
  go_ret
  exact ⟨rfl, hkc10.below⟩

theorem law_TokenTold (va : Value) (A : List Fld) (n v : ByteArray) (_b1 : n.size ≤ 140737488351232) (_b2 : v.size ≤ 140737488351232) (w : World) (hG : Good w)
    (hA : Flds w.heap.size w va A) (_oA : va.oneCell' = true) (mA : A.length ≤ maxLen) (nA : ∀ f ∈ A, f.1.length ≤ maxLen ∧ f.2.length ≤ maxLen) :
    Calls Tryd.prog 8 #[va, .string n, .string v] w fun e w' => e = .returned (.bool true) ∧ Below w.heap.size w w' := by
  obtain ⟨aoA, caA, rfl⟩ := hA.shape
  have cFA := fun (w1 : World) h => Few13_any (.slice aoA A.length caA) A mA nA w1 h
  cases hFA : few13 A <;> rw [hFA] at cFA
  · exact td_few aoA caA A n v w hG (Lib.hid hA) cFA
  · rcases Nat.lt_or_ge 300 n.size with h_n | h_n
    · exact td_ln aoA caA A n v w hG (Lib.hid hA) cFA h_n
    · rcases Nat.lt_or_ge 300 v.size with h_v | h_v
      · exact td_lv aoA caA A n v w hG (Lib.hid hA) cFA h_n h_v
      · cases ho : sameN n.data.toList rpN <;> by_cases ht : lastP (splitT v.data.toList) = 0
        · exact td_01 aoA caA A n v w hG (Lib.hid hA) cFA h_n h_v hFA ho ht
        · exact td_00 aoA caA A n v w hG (Lib.hid hA) cFA h_n h_v hFA ho ht
        · exact td_11 aoA caA A n v w hG (Lib.hid hA) cFA h_n h_v hFA ho ht
        · exact td_10 aoA caA A n v w hG (Lib.hid hA) cFA h_n h_v hFA ho ht

end Go.Proofs.YtnppnogmpoigkaaDoor
