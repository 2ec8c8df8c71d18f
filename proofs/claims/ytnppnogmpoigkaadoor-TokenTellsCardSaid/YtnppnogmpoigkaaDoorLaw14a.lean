/- The law TokenTells, walked over the contracts. -/
import Derived.Test.YtnppnogmpoigkaaDoorLaw14
import Derived.Test.YtnppnogmpoigkaaDoorHead0
namespace Go.Proofs.YtnppnogmpoigkaaDoor
open Go.RowKit Go.Proofs.YtnppnogmpoigkaaDoorW.PrintWords
set_option linter.unusedVariables false
set_option linter.unnecessarySimpa false
set_option linter.unusedSimpArgs false

theorem Flds.fa {n₀ : Nat} {w : World} {ao : Option Addr} {cap : Nat} {l : List Fld} (h : Flds n₀ w (.slice ao l.length cap) l) : FldsAt n₀ w ao l := by
  obtain ⟨ao', cap', e, h⟩ := h.at_
  obtain ⟨rfl, _, rfl⟩ := Value.slice.inj e
  exact h
theorem Texts.shape {n₀ : Nat} {w : World} {sv : Value} {l : List (List UInt8)} (h : Texts n₀ w sv l) : ∃ ao cap, sv = .slice ao l.length cap := by
  obtain ⟨ao, cap, e, _⟩ := h.at_
  exact ⟨ao, cap, e⟩
theorem get_len {L : List Fld} (h : few13 L = true) (n : List UInt8) : (getL n L).length ≤ 999998 := by
  obtain ⟨h1, h2⟩ := few13_yes h
  unfold getL
  refine Nat.le_trans (inter_le comma 300 _ (fun x hx => allL_le (m := 300) h2 x hx)) ?_
  have h3 := allL_len n L
  have h4 : (allL n L).length * (300 + comma.length) ≤ 60 * (300 + comma.length) := Nat.mul_le_mul_right _ (by omega)
  exact Nat.le_trans h4 (by decide)

set_option maxHeartbeats 8000000 in
set_option maxRecDepth 100000 in
theorem tt_few (s : ByteArray) (p : Int) (aoA : Option Addr) (caA : Nat) (A : List Fld) (w : World) (hG : Good w) (hA0 : Hid (Flds w.heap.size w (.slice aoA A.length caA) A))
    (cFA : ∀ w1 : World, Flds w1.heap.size w1 (.slice aoA A.length caA) A → Calls Tryd.prog 10 #[.slice aoA A.length caA] w1 fun e w' => e = .returned (.bool false) ∧ Below w1.heap.size w1 w') :
    Calls Tryd.prog 3 #[.string s, .int .i64 p, .slice aoA A.length caA] w fun e w' => e = .returned (.bool true) ∧ Below w.heap.size w w' := by
  have hk0 := Ok.refl hG
  go_enter Tryd.func3, Tryd.ntmps3
  go_wp2_with fail
  refine (awake14 w hk0.good).mono ?_
  rintro e w1 ⟨rfl, hb1⟩
  have hkc1 := hk0.step hb1
  have hA1 := Lib.hid ((hA0.out.below hb1).mono hb1.size)
  clear hA0
  go_wp2_with fail
  refine (cFA w1 hA1.out).mono ?_
  rintro e w2 ⟨rfl, hb2⟩
  have hkc2 := hkc1.step hb2
  have hA2 := Lib.hid ((hA1.out.below hb2).mono hb2.size)
  clear hA1
  go_wp2
  go_ret
  exact ⟨rfl, hkc2.below⟩

set_option maxHeartbeats 8000000 in
set_option maxRecDepth 100000 in
theorem tt_long (s : ByteArray) (p : Int) (aoA : Option Addr) (caA : Nat) (A : List Fld) (w : World) (hG : Good w) (hA0 : Hid (Flds w.heap.size w (.slice aoA A.length caA) A))
    (cFA : ∀ w1 : World, Flds w1.heap.size w1 (.slice aoA A.length caA) A → Calls Tryd.prog 10 #[.slice aoA A.length caA] w1 fun e w' => e = .returned (.bool true) ∧ Below w1.heap.size w1 w') (hs : 600 < s.size) :
    Calls Tryd.prog 3 #[.string s, .int .i64 p, .slice aoA A.length caA] w fun e w' => e = .returned (.bool true) ∧ Below w.heap.size w w' := by
  have d0 : decide ((600 : Int) < (s.size : Int)) = true := decide_eq_true (by omega)
  have d1 : decide (600 < s.size) = true := decide_eq_true hs
  clear hs
  have hk0 := Ok.refl hG
  go_enter Tryd.func3, Tryd.ntmps3
  go_wp2_with fail
  refine (awake14 w hk0.good).mono ?_
  rintro e w1 ⟨rfl, hb1⟩
  have hkc1 := hk0.step hb1
  have hA1 := Lib.hid ((hA0.out.below hb1).mono hb1.size)
  clear hA0
  go_wp2_with fail
  refine (cFA w1 hA1.out).mono ?_
  rintro e w2 ⟨rfl, hb2⟩
  have hkc2 := hkc1.step hb2
  have hA2 := Lib.hid ((hA1.out.below hb2).mono hb2.size)
  clear hA1
  go_wp2
  go_ret
  exact ⟨rfl, hkc2.below⟩

set_option maxHeartbeats 8000000 in
set_option maxRecDepth 100000 in
theorem tt_main (s : ByteArray) (p : Int) (aoA : Option Addr) (caA : Nat) (A : List Fld) (w : World) (hG : Good w) (hA0 : Hid (Flds w.heap.size w (.slice aoA A.length caA) A))
    (cFA : ∀ w1 : World, Flds w1.heap.size w1 (.slice aoA A.length caA) A → Calls Tryd.prog 10 #[.slice aoA A.length caA] w1 fun e w' => e = .returned (.bool true) ∧ Below w1.heap.size w1 w') (hs : s.size ≤ 600) (hf : few13 A = true) :
    Calls Tryd.prog 3 #[.string s, .int .i64 p, .slice aoA A.length caA] w fun e w' => e = .returned (.bool true) ∧ Below w.heap.size w w' := by
  have hsl := size_list s
  obtain ⟨f1, f2⟩ := few13_yes hf
  have hal : ∀ f ∈ A, f.1.length ≤ 1000000 ∧ f.2.length ≤ 1000000 := fun f h => ⟨by have := (f2 f h).1; omega, by have := (f2 f h).2; omega⟩
  have hgl := get_len hf rpN
  have cS := fun w1 (hG : Good w1) => tok_Split_any s (by omega) w1 hG
  have cS' := fun w1 => ref14_Split_any s (by omega) w1
  have hlen := splitT_len s.data.toList
  have hes : s = ⟨s.data.toList.toArray⟩ := rfl
  have cP := fun w1 (hG : Good w1) => tok_Policy_any s.data.toList (by omega) w1 hG
  have cP' := fun w1 => ref14_Policy_any s.data.toList (by omega) w1
  rw [← hes] at cP cP'
  have cN := fun w1 (hG : Good w1) => (tok_Name_any p w1 hG).mono fun e w' (h : _ ∧ w' = w1) => (⟨h.1, by rw [h.2]; exact Below.refl _ _⟩ : _ ∧ Below w1.heap.size w1 w')
  have cN' := fun w1 => (ref14_Name_any p w1).mono fun e w' (h : _ ∧ w' = w1) => (⟨h.1, by rw [h.2]; exact Below.refl _ _⟩ : _ ∧ Below w1.heap.size w1 w')
  have cL := fun w1 (hG : Good w1) => tok_Last_any s (by omega) w1 hG
  have cL' := fun w1 => ref14_Last_any s (by omega) w1
  have cT := fun w1 (hG : Good w1) (hA : Flds w1.heap.size w1 (.slice aoA A.length caA) A) => tok_Told_any aoA caA A (by omega) hal hgl w1 hG hA.fa
  have cT' := fun w1 (hA : Flds w1.heap.size w1 (.slice aoA A.length caA) A) => ref14_Told_any aoA caA A (by omega) hal hgl w1 hA.fa
  generalize polOf s.data.toList = pp at *
  generalize polName p = pn at *
  generalize toldL A = tt at *
  generalize hST : splitT s.data.toList = ST at *
  have hSTl : ST.length ≤ 1000000 := by omega
  generalize lastP ST = lp at *
  have cXY := fun ao ca bo cb w1 hX hY => ref08_Same (.slice ao ST.length ca) (.slice bo ST.length cb) ST ST hSTl hSTl w1 hX hY
  rw [beq_self_eq_true] at cXY
  have d0 : decide ((600 : Int) < (s.size : Int)) = false := decide_eq_false (by omega)
  have d1 : decide (600 < s.size) = false := decide_eq_false (by omega)
  clear hs hsl f1 f2 hal hgl hlen hST hf hes
  have hk0 := Ok.refl hG
  go_enter Tryd.func3, Tryd.ntmps3
  go_wp2_with fail
  refine (awake14 w hk0.good).mono ?_
  rintro e w1 ⟨rfl, hb1⟩
  have hkc1 := hk0.step hb1
  have hA1 := Lib.hid ((hA0.out.below hb1).mono hb1.size)
  clear hA0
  go_wp2_with fail
  refine (cFA w1 hA1.out).mono ?_
  rintro e w2 ⟨rfl, hb2⟩
  have hkc2 := hkc1.step hb2
  have hA2 := Lib.hid ((hA1.out.below hb2).mono hb2.size)
  clear hA1
  go_wp2_with fail
  refine (cS w2 hkc2.good).mono ?_
  rintro e w3 ⟨v3, rfl, ho3, hb3⟩
  have hkc3 := hkc2.step hb3
  have hA3 := Lib.hid ((hA2.out.below hb3).mono hb3.size)
  clear hA2
  have hXn := (texts_own ho3 (Nat.le_refl _)).1
  obtain ⟨aoX, caX, rfl⟩ := hXn.shape
  have hX0 := Lib.hid hXn
  clear hXn ho3
  go_wp2_with fail
  refine (cS' w3).mono ?_
  rintro e w4 ⟨v4, rfl, ho4, hb4⟩
  have hkc4 := hkc3.step hb4
  have hA4 := Lib.hid ((hA3.out.below hb4).mono hb4.size)
  clear hA3
  have hX5 := Lib.hid ((hX0.out.below hb4).mono hb4.size)
  clear hX0
  have hYn := (texts_own ho4 (Nat.le_refl _)).1
  obtain ⟨aoY, caY, rfl⟩ := hYn.shape
  have hY0 := Lib.hid hYn
  clear hYn ho4
  go_wp2_with fail
  refine (cXY _ _ _ _ w4 hX5.out hY0.out).mono ?_
  rintro e w5 ⟨rfl, hb5⟩
  have hkc5 := hkc4.step hb5
  have hA6 := Lib.hid ((hA4.out.below hb5).mono hb5.size)
  clear hA4
  have hX7 := Lib.hid ((hX5.out.below hb5).mono hb5.size)
  clear hX5
  have hY8 := Lib.hid ((hY0.out.below hb5).mono hb5.size)
  clear hY0
  clear hX7
  clear hY8
  go_wp2_with fail
  refine (cP w5 hkc5.good).mono ?_
  rintro e w6 ⟨rfl, hb6⟩
  have hkc6 := hkc5.step hb6
  have hA9 := Lib.hid ((hA6.out.below hb6).mono hb6.size)
  clear hA6
  go_wp2_with fail
  refine (cP' w6).mono ?_
  rintro e w7 ⟨rfl, hb7⟩
  have hkc7 := hkc6.step hb7
  have hA10 := Lib.hid ((hA9.out.below hb7).mono hb7.size)
  clear hA9
  go_wp2_with fail
  refine (cN w7 hkc7.good).mono ?_
  rintro e w8 ⟨rfl, hb8⟩
  have hkc8 := hkc7.step hb8
  have hA11 := Lib.hid ((hA10.out.below hb8).mono hb8.size)
  clear hA10
  go_wp2_with fail
  refine (cN' w8).mono ?_
  rintro e w9 ⟨rfl, hb9⟩
  have hkc9 := hkc8.step hb9
  have hA12 := Lib.hid ((hA11.out.below hb9).mono hb9.size)
  clear hA11
  go_wp2_with fail
  refine (cL w9 hkc9.good).mono ?_
  rintro e w10 ⟨rfl, hb10⟩
  have hkc10 := hkc9.step hb10
  have hA13 := Lib.hid ((hA12.out.below hb10).mono hb10.size)
  clear hA12
  go_wp2_with fail
  refine (cL' w10).mono ?_
  rintro e w11 ⟨rfl, hb11⟩
  have hkc11 := hkc10.step hb11
  have hA14 := Lib.hid ((hA13.out.below hb11).mono hb11.size)
  clear hA13
  go_wp2_with fail
  refine (cT w11 hkc11.good hA14.out).mono ?_
  rintro e w12 ⟨rfl, hb12⟩
  have hkc12 := hkc11.step hb12
  have hA15 := Lib.hid ((hA14.out.below hb12).mono hb12.size)
  clear hA14
  go_wp2_with fail
  refine (cT' w12 hA15.out).mono ?_
  rintro e w13 ⟨rfl, hb13⟩
  have hkc13 := hkc12.step hb13
  have hA16 := Lib.hid ((hA15.out.below hb13).mono hb13.size)
  clear hA15
  go_wp2
  go_ret
  exact ⟨rfl, hkc13.below⟩

theorem law_TokenTells (s : ByteArray) (p : Int) (va : Value) (A : List Fld) (_b0 : s.size ≤ 140737488351232) (_b1 : (Lit.int .i64 p).wf = true) (w : World) (hG : Good w)
    (hA : Flds w.heap.size w va A) (_oA : va.oneCell' = true) (mA : A.length ≤ maxLen) (nA : ∀ f ∈ A, f.1.length ≤ maxLen ∧ f.2.length ≤ maxLen) :
    Calls Tryd.prog 3 #[.string s, .int .i64 p, va] w fun e w' => e = .returned (.bool true) ∧ Below w.heap.size w w' := by
  obtain ⟨aoA, caA, rfl⟩ := hA.shape
  have cFA := fun (w1 : World) h => Few13_any (.slice aoA A.length caA) A mA nA w1 h
  cases hFA : few13 A <;> rw [hFA] at cFA
  · exact tt_few s p aoA caA A w hG (Lib.hid hA) cFA
  · rcases Nat.lt_or_ge 600 s.size with hs | hs
    · exact tt_long s p aoA caA A w hG (Lib.hid hA) cFA hs
    · exact tt_main s p aoA caA A w hG (Lib.hid hA) cFA hs hFA

end Go.Proofs.YtnppnogmpoigkaaDoor
