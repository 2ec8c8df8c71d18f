/- The laws TokenNames, TokenPolicy, walked over the contracts. -/
import Derived.Test.YtnppnogmpoigkaaDoorTokP
namespace Go.Proofs.YtnppnogmpoigkaaDoor
open Go.RowKit Go.Proofs.YtnppnogmpoigkaaDoorW.PrintWords
set_option linter.unusedVariables false
set_option linter.unnecessarySimpa false
set_option linter.unusedSimpArgs false

theorem pn_low : ∀ p : Nat, p < 9 → lowL (polName p) = polName p := by decide +kernel
theorem pn_pol : ∀ p : Nat, p < 9 → 1 ≤ p → polOf (polName p) = p := by decide +kernel
theorem pn_last : ∀ p : Nat, p < 9 → 1 ≤ p → lastP (splitT (polName p)) = p := by decide +kernel
theorem pn_inj : ∀ p : Nat, p < 9 → ∀ q : Nat, q < 9 → polName p = polName q → p = q := by decide +kernel
theorem pn_full : ∀ p : Nat, p < 9 → 1 ≤ p → polName p ≠ [] := by decide +kernel
theorem pn_out {p : Int} (h : p ≤ 0 ∨ 9 ≤ p) : polName p = [] := by
  unfold polName
  split
  · rename_i h1
    obtain rfl : p = 0 := by omega
    rfl
  · rfl
theorem pn_same {k : Nat} (hk : k < 9) (h1 : 1 ≤ k) {q : Int} (h : polName q = polName k) : q = k := by
  by_cases hq : 0 ≤ q ∧ q < 9
  · obtain ⟨j, rfl⟩ : ∃ j : Nat, q = j := ⟨q.toNat, by omega⟩
    have := pn_inj j (by omega) k hk h
    omega
  · have e : polName q = [] := by unfold polName; rw [if_neg hq]
    rw [e] at h
    exact absurd h.symm (pn_full k hk h1)

set_option maxHeartbeats 8000000 in
set_option maxRecDepth 100000 in
theorem tn_lo (p q : Int) (w : World) (hG : Good w) (h : p ≤ 0) :
    Calls Tryd.prog 4 #[.int .i64 p, .int .i64 q] w fun e w' => e = .returned (.bool true) ∧ Below w.heap.size w w' := by
  have cN := fun w1 (hG : Good w1) => (tok_Name_any p w1 hG).mono fun e w' (h : _ ∧ w' = w1) => (⟨h.1, by rw [h.2]; exact Below.refl _ _⟩ : _ ∧ Below w1.heap.size w1 w')
  have hn : polName p = [] := pn_out (by omega)
  rw [hn] at cN
  have d0 : decide (p ≤ 0) = true := decide_eq_true h
  clear h hn
  have hk0 := Ok.refl hG
  go_enter Tryd.func4, Tryd.ntmps4
  go_wp2_with fail
  refine (awake14 w hk0.good).mono ?_
  rintro e w1 ⟨rfl, hb1⟩
  have hkc1 := hk0.step hb1
  go_wp2_with fail
  refine (cN w1 hkc1.good).mono ?_
  rintro e w2 ⟨rfl, hb2⟩
  have hkc2 := hkc1.step hb2
  go_wp2
  go_ret
  exact ⟨rfl, hkc2.below⟩

set_option maxHeartbeats 8000000 in
set_option maxRecDepth 100000 in
theorem tn_hi (p q : Int) (w : World) (hG : Good w) (h : 9 ≤ p) :
    Calls Tryd.prog 4 #[.int .i64 p, .int .i64 q] w fun e w' => e = .returned (.bool true) ∧ Below w.heap.size w w' := by
  have cN := fun w1 (hG : Good w1) => (tok_Name_any p w1 hG).mono fun e w' (h : _ ∧ w' = w1) => (⟨h.1, by rw [h.2]; exact Below.refl _ _⟩ : _ ∧ Below w1.heap.size w1 w')
  have hn : polName p = [] := pn_out (by omega)
  rw [hn] at cN
  have d0 : decide (p ≤ 0) = false := decide_eq_false (by omega)
  have d1 : decide (9 ≤ p) = true := decide_eq_true h
  clear h hn
  have hk0 := Ok.refl hG
  go_enter Tryd.func4, Tryd.ntmps4
  go_wp2_with fail
  refine (awake14 w hk0.good).mono ?_
  rintro e w1 ⟨rfl, hb1⟩
  have hkc1 := hk0.step hb1
  go_wp2_with fail
  refine (cN w1 hkc1.good).mono ?_
  rintro e w2 ⟨rfl, hb2⟩
  have hkc2 := hkc1.step hb2
  go_wp2
  go_ret
  exact ⟨rfl, hkc2.below⟩

set_option maxHeartbeats 8000000 in
set_option maxRecDepth 100000 in
theorem tn_in1 (p q : Int) (w : World) (hG : Good w) (hp0 : 0 < p) (hp9 : p < 9) (hq : q = p) :
    Calls Tryd.prog 4 #[.int .i64 p, .int .i64 q] w fun e w' => e = .returned (.bool true) ∧ Below w.heap.size w w' := by
  obtain ⟨k, rfl⟩ : ∃ k : Nat, p = k := ⟨p.toNat, by omega⟩
  have hk : k < 9 := by omega
  have h1 : 1 ≤ k := by omega
  have cN := fun w1 (hG : Good w1) => (tok_Name_any (k : Int) w1 hG).mono fun e w' (h : _ ∧ w' = w1) => (⟨h.1, by rw [h.2]; exact Below.refl _ _⟩ : _ ∧ Below w1.heap.size w1 w')
  have hl := polName_len (k : Int)
  have cW := fun w1 => ascii_Lower_any ⟨(polName (k : Int)).toArray⟩ (by rw [ba_len]; omega) w1
  rw [mk_toList, pn_low k hk] at cW
  have cP := fun w1 (hG : Good w1) => tok_Policy_any (polName (k : Int)) (by omega) w1 hG
  rw [pn_pol k hk h1] at cP
  have e1 : (⟨#[32]⟩ ++ ⟨(polName (k : Int)).toArray⟩ ++ ⟨#[9]⟩ : ByteArray).data.toList = 32 :: (polName (k : Int) ++ [9]) := by simp [ByteArray.data_append]
  have z1 := congrArg List.length e1
  simp only [List.length_append, List.length_cons, List.length_nil, ← size_list] at z1
  have cL := fun w1 (hG : Good w1) => tok_Last_any (⟨#[32]⟩ ++ ⟨(polName (k : Int)).toArray⟩ ++ ⟨#[9]⟩) (by omega) w1 hG
  rw [e1, splitT_front (by decide), splitT_back (by decide), pn_last k hk h1] at cL
  have hl2 : (⟨(polName (k : Int)).toArray⟩ : ByteArray).size ≤ 40 := by rw [ba_len]; exact hl
  have hne : (⟨(polName (k : Int)).toArray⟩ : ByteArray).toList.isEmpty = false := by
    rw [ba_toList, mk_toList]
    cases hp : polName (k : Int) with
    | nil => exact absurd hp (pn_full k hk h1)
    | cons _ _ => rfl
  have cQ := fun w1 (hG : Good w1) => (tok_Name_any q w1 hG).mono fun e w' (h : _ ∧ w' = w1) => (⟨h.1, by rw [h.2]; exact Below.refl _ _⟩ : _ ∧ Below w1.heap.size w1 w')
  have d0 : decide ((k : Int) ≤ 0) = false := decide_eq_false (by omega)
  have d00 : decide (k = 0) = false := decide_eq_false (by omega)
  have d01 : ¬ k = 0 := by omega
  have d1 : decide ((9 : Int) ≤ k) = false := decide_eq_false (by omega)
  have d2 : decide (9 ≤ k) = false := decide_eq_false (by omega)
  subst hq
  clear e1 z1 hl hk h1 hp0 hp9
  generalize (⟨(polName (k : Int)).toArray⟩ : ByteArray) = S at *
  have hk0 := Ok.refl hG
  go_enter Tryd.func4, Tryd.ntmps4
  go_wp2_with fail
  refine (awake14 w hk0.good).mono ?_
  rintro e w1 ⟨rfl, hb1⟩
  have hkc1 := hk0.step hb1
  go_wp2_with fail
  refine (cN w1 hkc1.good).mono ?_
  rintro e w2 ⟨rfl, hb2⟩
  have hkc2 := hkc1.step hb2
  go_wp2_with fail
  refine (cW w2).mono ?_
  rintro e w3 ⟨rfl, hb3⟩
  have hkc3 := hkc2.step hb3
  go_wp2_with fail
  refine (cP w3 hkc3.good).mono ?_
  rintro e w4 ⟨rfl, hb4⟩
  have hkc4 := hkc3.step hb4
  go_wp2_with fail
  refine (cL w4 hkc4.good).mono ?_
  rintro e w5 ⟨rfl, hb5⟩
  have hkc5 := hkc4.step hb5
  go_wp2_with fail
  refine (cQ w5 hkc5.good).mono ?_
  rintro e w6 ⟨rfl, hb6⟩
  have hkc6 := hkc5.step hb6
  go_wp2
  go_ret
  exact ⟨rfl, hkc6.below⟩

set_option maxHeartbeats 8000000 in
set_option maxRecDepth 100000 in
theorem tn_in0 (p q : Int) (w : World) (hG : Good w) (hp0 : 0 < p) (hp9 : p < 9) (hq : q ≠ p) :
    Calls Tryd.prog 4 #[.int .i64 p, .int .i64 q] w fun e w' => e = .returned (.bool true) ∧ Below w.heap.size w w' := by
  obtain ⟨k, rfl⟩ : ∃ k : Nat, p = k := ⟨p.toNat, by omega⟩
  have hk : k < 9 := by omega
  have h1 : 1 ≤ k := by omega
  have cN := fun w1 (hG : Good w1) => (tok_Name_any (k : Int) w1 hG).mono fun e w' (h : _ ∧ w' = w1) => (⟨h.1, by rw [h.2]; exact Below.refl _ _⟩ : _ ∧ Below w1.heap.size w1 w')
  have hl := polName_len (k : Int)
  have cW := fun w1 => ascii_Lower_any ⟨(polName (k : Int)).toArray⟩ (by rw [ba_len]; omega) w1
  rw [mk_toList, pn_low k hk] at cW
  have cP := fun w1 (hG : Good w1) => tok_Policy_any (polName (k : Int)) (by omega) w1 hG
  rw [pn_pol k hk h1] at cP
  have e1 : (⟨#[32]⟩ ++ ⟨(polName (k : Int)).toArray⟩ ++ ⟨#[9]⟩ : ByteArray).data.toList = 32 :: (polName (k : Int) ++ [9]) := by simp [ByteArray.data_append]
  have z1 := congrArg List.length e1
  simp only [List.length_append, List.length_cons, List.length_nil, ← size_list] at z1
  have cL := fun w1 (hG : Good w1) => tok_Last_any (⟨#[32]⟩ ++ ⟨(polName (k : Int)).toArray⟩ ++ ⟨#[9]⟩) (by omega) w1 hG
  rw [e1, splitT_front (by decide), splitT_back (by decide), pn_last k hk h1] at cL
  have hl2 : (⟨(polName (k : Int)).toArray⟩ : ByteArray).size ≤ 40 := by rw [ba_len]; exact hl
  have hne : (⟨(polName (k : Int)).toArray⟩ : ByteArray).toList.isEmpty = false := by
    rw [ba_toList, mk_toList]
    cases hp : polName (k : Int) with
    | nil => exact absurd hp (pn_full k hk h1)
    | cons _ _ => rfl
  have cQ := fun w1 (hG : Good w1) => (tok_Name_any q w1 hG).mono fun e w' (h : _ ∧ w' = w1) => (⟨h.1, by rw [h.2]; exact Below.refl _ _⟩ : _ ∧ Below w1.heap.size w1 w')
  have d0 : decide ((k : Int) ≤ 0) = false := decide_eq_false (by omega)
  have d00 : decide (k = 0) = false := decide_eq_false (by omega)
  have d01 : ¬ k = 0 := by omega
  have d1 : decide ((9 : Int) ≤ k) = false := decide_eq_false (by omega)
  have d2 : decide (9 ≤ k) = false := decide_eq_false (by omega)
  have hs : (⟨(polName q).toArray⟩ : ByteArray) ≠ ⟨(polName (k : Int)).toArray⟩ := fun e => hq (pn_same hk h1 (by have := congrArg (fun b : ByteArray => b.data.toList) e; simpa using this))
  have hs1 : decide ((⟨(polName q).toArray⟩ : ByteArray) = ⟨(polName (k : Int)).toArray⟩) = false := decide_eq_false hs
  have hs2 : ((⟨(polName q).toArray⟩ : ByteArray).toList == (⟨(polName (k : Int)).toArray⟩ : ByteArray).toList) = false := beq_eq_false_iff_ne.2 fun e => hs (toList_inj (by rw [← ba_toList, ← ba_toList, e]))
  have hq1 : ((k : Int) == q) = false := beq_eq_false_iff_ne.2 fun e => hq e.symm
  have hq2 : decide ((k : Int) = q) = false := decide_eq_false fun e => hq e.symm
  clear e1 z1 hl hk h1 hp0 hp9 hq hs
  generalize (⟨(polName q).toArray⟩ : ByteArray) = Q at *
  generalize (⟨(polName (k : Int)).toArray⟩ : ByteArray) = S at *
  have hk0 := Ok.refl hG
  go_enter Tryd.func4, Tryd.ntmps4
  go_wp2_with fail
  refine (awake14 w hk0.good).mono ?_
  rintro e w1 ⟨rfl, hb1⟩
  have hkc1 := hk0.step hb1
  go_wp2_with fail
  refine (cN w1 hkc1.good).mono ?_
  rintro e w2 ⟨rfl, hb2⟩
  have hkc2 := hkc1.step hb2
  go_wp2_with fail
  refine (cW w2).mono ?_
  rintro e w3 ⟨rfl, hb3⟩
  have hkc3 := hkc2.step hb3
  go_wp2_with fail
  refine (cP w3 hkc3.good).mono ?_
  rintro e w4 ⟨rfl, hb4⟩
  have hkc4 := hkc3.step hb4
  go_wp2_with fail
  refine (cL w4 hkc4.good).mono ?_
  rintro e w5 ⟨rfl, hb5⟩
  have hkc5 := hkc4.step hb5
  go_wp2_with fail
  refine (cQ w5 hkc5.good).mono ?_
  rintro e w6 ⟨rfl, hb6⟩
  have hkc6 := hkc5.step hb6
  go_wp2
  go_ret
  exact ⟨rfl, hkc6.below⟩

theorem law_TokenNames (p q : Int) (_b0 : (Lit.int .i64 p).wf = true) (_b1 : (Lit.int .i64 q).wf = true) (w : World) (hG : Good w) :
    Calls Tryd.prog 4 #[.int .i64 p, .int .i64 q] w fun e w' => e = .returned (.bool true) ∧ Below w.heap.size w w' := by
  rcases Int.lt_or_le 0 p with h | h
  · rcases Int.lt_or_le p 9 with h9 | h9
    · by_cases hq : q = p
      · exact tn_in1 p q w hG h h9 hq
      · exact tn_in0 p q w hG h h9 hq
    · exact tn_hi p q w hG h9
  · exact tn_lo p q w hG h

end Go.Proofs.YtnppnogmpoigkaaDoor
