/- The law HostKinds, walked over the contracts. -/
import Derived.Test.YtcpjonglfnakpaaDoorLaw7
import Derived.Test.YtcpjonglfnakpaaDoorMH
namespace Go.Proofs.YtcpjonglfnakpaaDoor
open Go.RowKit Go.Proofs.YtcpjonglfnakpaaDoorW.PrintWords

set_option maxHeartbeats 8000000 in
set_option maxRecDepth 100000 in
set_option linter.unusedVariables false in
theorem kinds_y_pre_y_some (s : ByteArray) (hs : s.size ≤ 150) (y0 y1 y2 y3 y4 y5 y6 y7 : Int) (hl : ByteArray) (hn z0 z1 z2 z3 z4 z5 z6 z7 : Int) (m : Int) (num : Bool) (w : World) (hG : Good w)
    (cA : ∀ w1, Good w1 → Calls Tryd.prog 10 #[.string ((⟨#[91]⟩ : ByteArray) ++ s ++ ⟨#[93]⟩)] w1 fun e w' => e = .returned (.tuple #[.agg #[.int .i64 3, .string ⟨#[]⟩, .int .i64 0, .int .i64 y0, .int .i64 y1, .int .i64 y2, .int .i64 y3, .int .i64 y4, .int .i64 y5, .int .i64 y6, .int .i64 y7], .bool true]) ∧ Below w1.heap.size w1 w')
    (cB : ∀ w1, Good w1 → Calls Tryd.prog 12 #[.string s] w1 fun e w' => e = .returned (.tuple #[.agg #[.int .i64 y0, .int .i64 y1, .int .i64 y2, .int .i64 y3, .int .i64 y4, .int .i64 y5, .int .i64 y6, .int .i64 y7], .bool true]) ∧ Below w1.heap.size w1 w')
    (cC : ∀ w1, Good w1 → Calls Tryd.prog 10 #[.string s] w1 fun e w' => e = .returned (.tuple #[.agg #[.int .i64 3, .string hl, .int .i64 hn, .int .i64 z0, .int .i64 z1, .int .i64 z2, .int .i64 z3, .int .i64 z4, .int .i64 z5, .int .i64 z6, .int .i64 z7], .bool true]) ∧ Below w1.heap.size w1 w')
    (h0 : 0 < s.size) (c : UInt8) (hg : s[0]'h0 = c) (q : ((c.toNat : Int) == 91) = true) :
    Calls Tryd.prog 6 #[.string s] w fun e w' => e = .returned (.bool true) ∧ Below w.heap.size w w' := by
  have hd : decide ((150 : Int) < (s.size : Int)) = false := decide_eq_false (by omega)
  have hd0 : decide ((0 : Int) < (s.size : Int)) = true := decide_eq_true (by omega)
  have hE : ∀ w : World, (Op.equalIn 10000 22 (.agg #[.int .i64 y0, .int .i64 y1, .int .i64 y2, .int .i64 y3, .int .i64 y4, .int .i64 y5, .int .i64 y6, .int .i64 y7]) (.agg #[.int .i64 y0, .int .i64 y1, .int .i64 y2, .int .i64 y3, .int .i64 y4, .int .i64 y5, .int .i64 y6, .int .i64 y7])).run Tryd.prog w = .ok true w := fun w => (eq8 (p := [y0, y1, y2, y3, y4, y5, y6, y7]) (q := [y0, y1, y2, y3, y4, y5, y6, y7]) rfl rfl w).trans (by rw [beq_self_eq_true])
  have hk0 := Ok.refl hG
  go_enter Tryd.func6, Tryd.ntmps6
  go_wp2_with fail
  refine (awake7 w hk0.good).mono ?_
  rintro e w1 ⟨rfl, hb1⟩
  have hkc1 := hk0.step hb1
  go_wp2_with fail
  refine (cA w1 hkc1.good).mono ?_
  rintro e w2 ⟨rfl, hb2⟩
  have hkc2 := hkc1.step hb2
  have rA1 := heap_alloc_new w2 (.cells #[.int .i64 3, .string ⟨#[]⟩, .int .i64 0, .int .i64 y0, .int .i64 y1, .int .i64 y2, .int .i64 y3, .int .i64 y4, .int .i64 y5, .int .i64 y6, .int .i64 y7] 24)
  have hka1 := hkc2.alloc (.cells #[.int .i64 3, .string ⟨#[]⟩, .int .i64 0, .int .i64 y0, .int .i64 y1, .int .i64 y2, .int .i64 y3, .int .i64 y4, .int .i64 y5, .int .i64 y6, .int .i64 y7] 24)
  go_wp2_with fail
  refine (cB (w2.alloc (.cells #[.int .i64 3, .string ⟨#[]⟩, .int .i64 0, .int .i64 y0, .int .i64 y1, .int .i64 y2, .int .i64 y3, .int .i64 y4, .int .i64 y5, .int .i64 y6, .int .i64 y7] 24)) hka1.good).mono ?_
  rintro e w3 ⟨rfl, hb3⟩
  have hkc3 := hka1.step hb3
  have rA2 := block_below rA1 hb3 (lt_of_block rA1)
  have rAa3 := block_alloc rA2 (.cells #[.int .i64 y0, .int .i64 y1, .int .i64 y2, .int .i64 y3, .int .i64 y4, .int .i64 y5, .int .i64 y6, .int .i64 y7] 22)
  have rB3 := heap_alloc_new w3 (.cells #[.int .i64 y0, .int .i64 y1, .int .i64 y2, .int .i64 y3, .int .i64 y4, .int .i64 y5, .int .i64 y6, .int .i64 y7] 22)
  have hka3 := hkc3.alloc (.cells #[.int .i64 y0, .int .i64 y1, .int .i64 y2, .int .i64 y3, .int .i64 y4, .int .i64 y5, .int .i64 y6, .int .i64 y7] 22)
  obtain ⟨cA0, cA1, cA2, cA3, cA4, cA5, cA6, cA7, cA8, cA9, cA10⟩ := host_cells rAa3
  obtain ⟨cB0, cB1, cB2, cB3, cB4, cB5, cB6, cB7⟩ := eight_cells rB3
  go_wp2_with fail
  refine (cC (w3.alloc (.cells #[.int .i64 y0, .int .i64 y1, .int .i64 y2, .int .i64 y3, .int .i64 y4, .int .i64 y5, .int .i64 y6, .int .i64 y7] 22)) hka3.good).mono ?_
  rintro e w4 ⟨rfl, hb4⟩
  have hkc4 := hka3.step hb4
  clear cA0 cA1 cA2 cA3 cA4 cA5 cA6 cA7 cA8 cA9 cA10 cB0 cB1 cB2 cB3 cB4 cB5 cB6 cB7
  have rA4 := block_below rAa3 hb4 (lt_of_block rAa3)
  have rB5 := block_below rB3 hb4 (lt_of_block rB3)
  have rC6 := heap_alloc_new w4 (.cells #[.int .i64 3, .string hl, .int .i64 hn, .int .i64 z0, .int .i64 z1, .int .i64 z2, .int .i64 z3, .int .i64 z4, .int .i64 z5, .int .i64 z6, .int .i64 z7] 24)
  have hka6 := hkc4.alloc (.cells #[.int .i64 3, .string hl, .int .i64 hn, .int .i64 z0, .int .i64 z1, .int .i64 z2, .int .i64 z3, .int .i64 z4, .int .i64 z5, .int .i64 z6, .int .i64 z7] 24)
  obtain ⟨cC0, cC1, cC2, cC3, cC4, cC5, cC6, cC7, cC8, cC9, cC10⟩ := host_cells rC6
  go_wp2
  go_ret
  exact ⟨rfl, hka6.below⟩

set_option maxHeartbeats 8000000 in
set_option maxRecDepth 100000 in
set_option linter.unusedVariables false in
theorem kinds_y_pre_n_some (s : ByteArray) (hs : s.size ≤ 150) (y0 y1 y2 y3 y4 y5 y6 y7 : Int) (m : Int) (num : Bool) (w : World) (hG : Good w)
    (cA : ∀ w1, Good w1 → Calls Tryd.prog 10 #[.string ((⟨#[91]⟩ : ByteArray) ++ s ++ ⟨#[93]⟩)] w1 fun e w' => e = .returned (.tuple #[.agg #[.int .i64 3, .string ⟨#[]⟩, .int .i64 0, .int .i64 y0, .int .i64 y1, .int .i64 y2, .int .i64 y3, .int .i64 y4, .int .i64 y5, .int .i64 y6, .int .i64 y7], .bool true]) ∧ Below w1.heap.size w1 w')
    (cB : ∀ w1, Good w1 → Calls Tryd.prog 12 #[.string s] w1 fun e w' => e = .returned (.tuple #[.agg #[.int .i64 y0, .int .i64 y1, .int .i64 y2, .int .i64 y3, .int .i64 y4, .int .i64 y5, .int .i64 y6, .int .i64 y7], .bool true]) ∧ Below w1.heap.size w1 w')
    (cC : ∀ w1, Good w1 → Calls Tryd.prog 10 #[.string s] w1 fun e w' => e = .returned (.tuple #[.agg #[.int .i64 0, .string ⟨#[]⟩, .int .i64 0, .int .i64 0, .int .i64 0, .int .i64 0, .int .i64 0, .int .i64 0, .int .i64 0, .int .i64 0, .int .i64 0], .bool false]) ∧ Below w1.heap.size w1 w')
    (h0 : 0 < s.size) (c : UInt8) (hg : s[0]'h0 = c) (q : ((c.toNat : Int) == 91) = true) :
    Calls Tryd.prog 6 #[.string s] w fun e w' => e = .returned (.bool true) ∧ Below w.heap.size w w' := by
  have hd : decide ((150 : Int) < (s.size : Int)) = false := decide_eq_false (by omega)
  have hd0 : decide ((0 : Int) < (s.size : Int)) = true := decide_eq_true (by omega)
  have hE : ∀ w : World, (Op.equalIn 10000 22 (.agg #[.int .i64 y0, .int .i64 y1, .int .i64 y2, .int .i64 y3, .int .i64 y4, .int .i64 y5, .int .i64 y6, .int .i64 y7]) (.agg #[.int .i64 y0, .int .i64 y1, .int .i64 y2, .int .i64 y3, .int .i64 y4, .int .i64 y5, .int .i64 y6, .int .i64 y7])).run Tryd.prog w = .ok true w := fun w => (eq8 (p := [y0, y1, y2, y3, y4, y5, y6, y7]) (q := [y0, y1, y2, y3, y4, y5, y6, y7]) rfl rfl w).trans (by rw [beq_self_eq_true])
  have hk0 := Ok.refl hG
  go_enter Tryd.func6, Tryd.ntmps6
  go_wp2_with fail
  refine (awake7 w hk0.good).mono ?_
  rintro e w1 ⟨rfl, hb1⟩
  have hkc1 := hk0.step hb1
  go_wp2_with fail
  refine (cA w1 hkc1.good).mono ?_
  rintro e w2 ⟨rfl, hb2⟩
  have hkc2 := hkc1.step hb2
  have rA1 := heap_alloc_new w2 (.cells #[.int .i64 3, .string ⟨#[]⟩, .int .i64 0, .int .i64 y0, .int .i64 y1, .int .i64 y2, .int .i64 y3, .int .i64 y4, .int .i64 y5, .int .i64 y6, .int .i64 y7] 24)
  have hka1 := hkc2.alloc (.cells #[.int .i64 3, .string ⟨#[]⟩, .int .i64 0, .int .i64 y0, .int .i64 y1, .int .i64 y2, .int .i64 y3, .int .i64 y4, .int .i64 y5, .int .i64 y6, .int .i64 y7] 24)
  go_wp2_with fail
  refine (cB (w2.alloc (.cells #[.int .i64 3, .string ⟨#[]⟩, .int .i64 0, .int .i64 y0, .int .i64 y1, .int .i64 y2, .int .i64 y3, .int .i64 y4, .int .i64 y5, .int .i64 y6, .int .i64 y7] 24)) hka1.good).mono ?_
  rintro e w3 ⟨rfl, hb3⟩
  have hkc3 := hka1.step hb3
  have rA2 := block_below rA1 hb3 (lt_of_block rA1)
  have rAa3 := block_alloc rA2 (.cells #[.int .i64 y0, .int .i64 y1, .int .i64 y2, .int .i64 y3, .int .i64 y4, .int .i64 y5, .int .i64 y6, .int .i64 y7] 22)
  have rB3 := heap_alloc_new w3 (.cells #[.int .i64 y0, .int .i64 y1, .int .i64 y2, .int .i64 y3, .int .i64 y4, .int .i64 y5, .int .i64 y6, .int .i64 y7] 22)
  have hka3 := hkc3.alloc (.cells #[.int .i64 y0, .int .i64 y1, .int .i64 y2, .int .i64 y3, .int .i64 y4, .int .i64 y5, .int .i64 y6, .int .i64 y7] 22)
  obtain ⟨cA0, cA1, cA2, cA3, cA4, cA5, cA6, cA7, cA8, cA9, cA10⟩ := host_cells rAa3
  obtain ⟨cB0, cB1, cB2, cB3, cB4, cB5, cB6, cB7⟩ := eight_cells rB3
  go_wp2_with fail
  refine (cC (w3.alloc (.cells #[.int .i64 y0, .int .i64 y1, .int .i64 y2, .int .i64 y3, .int .i64 y4, .int .i64 y5, .int .i64 y6, .int .i64 y7] 22)) hka3.good).mono ?_
  rintro e w4 ⟨rfl, hb4⟩
  have hkc4 := hka3.step hb4
  clear cA0 cA1 cA2 cA3 cA4 cA5 cA6 cA7 cA8 cA9 cA10 cB0 cB1 cB2 cB3 cB4 cB5 cB6 cB7
  have rA4 := block_below rAa3 hb4 (lt_of_block rAa3)
  have rB5 := block_below rB3 hb4 (lt_of_block rB3)
  have rC6 := heap_alloc_new w4 (.cells #[.int .i64 0, .string ⟨#[]⟩, .int .i64 0, .int .i64 0, .int .i64 0, .int .i64 0, .int .i64 0, .int .i64 0, .int .i64 0, .int .i64 0, .int .i64 0] 24)
  have hka6 := hkc4.alloc (.cells #[.int .i64 0, .string ⟨#[]⟩, .int .i64 0, .int .i64 0, .int .i64 0, .int .i64 0, .int .i64 0, .int .i64 0, .int .i64 0, .int .i64 0, .int .i64 0] 24)
  obtain ⟨cC0, cC1, cC2, cC3, cC4, cC5, cC6, cC7, cC8, cC9, cC10⟩ := host_cells rC6
  go_wp2
  go_ret
  exact ⟨rfl, hka6.below⟩

set_option maxHeartbeats 8000000 in
set_option maxRecDepth 100000 in
set_option linter.unusedVariables false in
theorem kinds_y_num_y_some (s : ByteArray) (hs : s.size ≤ 150) (y0 y1 y2 y3 y4 y5 y6 y7 : Int) (hl : ByteArray) (hn z0 z1 z2 z3 z4 z5 z6 z7 : Int) (m : Int) (num : Bool) (w : World) (hG : Good w)
    (cA : ∀ w1, Good w1 → Calls Tryd.prog 10 #[.string ((⟨#[91]⟩ : ByteArray) ++ s ++ ⟨#[93]⟩)] w1 fun e w' => e = .returned (.tuple #[.agg #[.int .i64 3, .string ⟨#[]⟩, .int .i64 0, .int .i64 y0, .int .i64 y1, .int .i64 y2, .int .i64 y3, .int .i64 y4, .int .i64 y5, .int .i64 y6, .int .i64 y7], .bool true]) ∧ Below w1.heap.size w1 w')
    (cB : ∀ w1, Good w1 → Calls Tryd.prog 12 #[.string s] w1 fun e w' => e = .returned (.tuple #[.agg #[.int .i64 y0, .int .i64 y1, .int .i64 y2, .int .i64 y3, .int .i64 y4, .int .i64 y5, .int .i64 y6, .int .i64 y7], .bool true]) ∧ Below w1.heap.size w1 w')
    (cC : ∀ w1, Good w1 → Calls Tryd.prog 10 #[.string s] w1 fun e w' => e = .returned (.tuple #[.agg #[.int .i64 2, .string hl, .int .i64 m, .int .i64 z0, .int .i64 z1, .int .i64 z2, .int .i64 z3, .int .i64 z4, .int .i64 z5, .int .i64 z6, .int .i64 z7], .bool true]) ∧ Below w1.heap.size w1 w')
    (cD : ∀ w1, Good w1 → Calls Tryd.prog 13 #[.string s] w1 fun e w' => e = .returned (.tuple #[.int .i64 m, .bool true]) ∧ Below w1.heap.size w1 w')
    (cL : ∀ w1, Good w1 → Calls Tryd.prog 14 #[.string s] w1 fun e w' => e = .returned (.bool true) ∧ Drawn0 w1 w')
    (h0 : 0 < s.size) (c : UInt8) (hg : s[0]'h0 = c) (q : ((c.toNat : Int) == 91) = false) :
    Calls Tryd.prog 6 #[.string s] w fun e w' => e = .returned (.bool true) ∧ Below w.heap.size w w' := by
  have hd : decide ((150 : Int) < (s.size : Int)) = false := decide_eq_false (by omega)
  have hd0 : decide ((0 : Int) < (s.size : Int)) = true := decide_eq_true (by omega)
  have hE : ∀ w : World, (Op.equalIn 10000 22 (.agg #[.int .i64 y0, .int .i64 y1, .int .i64 y2, .int .i64 y3, .int .i64 y4, .int .i64 y5, .int .i64 y6, .int .i64 y7]) (.agg #[.int .i64 y0, .int .i64 y1, .int .i64 y2, .int .i64 y3, .int .i64 y4, .int .i64 y5, .int .i64 y6, .int .i64 y7])).run Tryd.prog w = .ok true w := fun w => (eq8 (p := [y0, y1, y2, y3, y4, y5, y6, y7]) (q := [y0, y1, y2, y3, y4, y5, y6, y7]) rfl rfl w).trans (by rw [beq_self_eq_true])
  have hk0 := Ok.refl hG
  go_enter Tryd.func6, Tryd.ntmps6
  go_wp2_with fail
  refine (awake7 w hk0.good).mono ?_
  rintro e w1 ⟨rfl, hb1⟩
  have hkc1 := hk0.step hb1
  go_wp2_with fail
  refine (cA w1 hkc1.good).mono ?_
  rintro e w2 ⟨rfl, hb2⟩
  have hkc2 := hkc1.step hb2
  have rA1 := heap_alloc_new w2 (.cells #[.int .i64 3, .string ⟨#[]⟩, .int .i64 0, .int .i64 y0, .int .i64 y1, .int .i64 y2, .int .i64 y3, .int .i64 y4, .int .i64 y5, .int .i64 y6, .int .i64 y7] 24)
  have hka1 := hkc2.alloc (.cells #[.int .i64 3, .string ⟨#[]⟩, .int .i64 0, .int .i64 y0, .int .i64 y1, .int .i64 y2, .int .i64 y3, .int .i64 y4, .int .i64 y5, .int .i64 y6, .int .i64 y7] 24)
  go_wp2_with fail
  refine (cB (w2.alloc (.cells #[.int .i64 3, .string ⟨#[]⟩, .int .i64 0, .int .i64 y0, .int .i64 y1, .int .i64 y2, .int .i64 y3, .int .i64 y4, .int .i64 y5, .int .i64 y6, .int .i64 y7] 24)) hka1.good).mono ?_
  rintro e w3 ⟨rfl, hb3⟩
  have hkc3 := hka1.step hb3
  have rA2 := block_below rA1 hb3 (lt_of_block rA1)
  have rAa3 := block_alloc rA2 (.cells #[.int .i64 y0, .int .i64 y1, .int .i64 y2, .int .i64 y3, .int .i64 y4, .int .i64 y5, .int .i64 y6, .int .i64 y7] 22)
  have rB3 := heap_alloc_new w3 (.cells #[.int .i64 y0, .int .i64 y1, .int .i64 y2, .int .i64 y3, .int .i64 y4, .int .i64 y5, .int .i64 y6, .int .i64 y7] 22)
  have hka3 := hkc3.alloc (.cells #[.int .i64 y0, .int .i64 y1, .int .i64 y2, .int .i64 y3, .int .i64 y4, .int .i64 y5, .int .i64 y6, .int .i64 y7] 22)
  obtain ⟨cA0, cA1, cA2, cA3, cA4, cA5, cA6, cA7, cA8, cA9, cA10⟩ := host_cells rAa3
  obtain ⟨cB0, cB1, cB2, cB3, cB4, cB5, cB6, cB7⟩ := eight_cells rB3
  go_wp2_with fail
  refine (cC (w3.alloc (.cells #[.int .i64 y0, .int .i64 y1, .int .i64 y2, .int .i64 y3, .int .i64 y4, .int .i64 y5, .int .i64 y6, .int .i64 y7] 22)) hka3.good).mono ?_
  rintro e w4 ⟨rfl, hb4⟩
  have hkc4 := hka3.step hb4
  clear cA0 cA1 cA2 cA3 cA4 cA5 cA6 cA7 cA8 cA9 cA10 cB0 cB1 cB2 cB3 cB4 cB5 cB6 cB7
  have rA4 := block_below rAa3 hb4 (lt_of_block rAa3)
  have rB5 := block_below rB3 hb4 (lt_of_block rB3)
  have rC6 := heap_alloc_new w4 (.cells #[.int .i64 2, .string hl, .int .i64 m, .int .i64 z0, .int .i64 z1, .int .i64 z2, .int .i64 z3, .int .i64 z4, .int .i64 z5, .int .i64 z6, .int .i64 z7] 24)
  have hka6 := hkc4.alloc (.cells #[.int .i64 2, .string hl, .int .i64 m, .int .i64 z0, .int .i64 z1, .int .i64 z2, .int .i64 z3, .int .i64 z4, .int .i64 z5, .int .i64 z6, .int .i64 z7] 24)
  obtain ⟨cC0, cC1, cC2, cC3, cC4, cC5, cC6, cC7, cC8, cC9, cC10⟩ := host_cells rC6
  go_wp2_with fail
  refine (cD (w4.alloc (.cells #[.int .i64 2, .string hl, .int .i64 m, .int .i64 z0, .int .i64 z1, .int .i64 z2, .int .i64 z3, .int .i64 z4, .int .i64 z5, .int .i64 z6, .int .i64 z7] 24)) hka6.good).mono ?_
  rintro e w5 ⟨rfl, hb5⟩
  have hkc5 := hka6.step hb5
  clear cC0 cC1 cC2 cC3 cC4 cC5 cC6 cC7 cC8 cC9 cC10
  have rC7 := block_below rC6 hb5 (lt_of_block rC6)
  obtain ⟨cC0, cC1, cC2, cC3, cC4, cC5, cC6, cC7, cC8, cC9, cC10⟩ := host_cells rC7
  go_wp2_with fail
  refine (cL w5 hkc5.good).mono ?_
  rintro e w6 ⟨rfl, hd6⟩
  have hkc6 := hkc5.step hd6.below
  clear cC0 cC1 cC2 cC3 cC4 cC5 cC6 cC7 cC8 cC9 cC10
  have rC8 := block_below rC7 hd6.below (lt_of_block rC7)
  obtain ⟨cC0, cC1, cC2, cC3, cC4, cC5, cC6, cC7, cC8, cC9, cC10⟩ := host_cells rC8
  go_wp2
  go_ret
  exact ⟨rfl, hkc6.below⟩

set_option maxHeartbeats 8000000 in
set_option maxRecDepth 100000 in
set_option linter.unusedVariables false in
theorem kinds_y_num_n_some (s : ByteArray) (hs : s.size ≤ 150) (y0 y1 y2 y3 y4 y5 y6 y7 : Int) (m : Int) (num : Bool) (w : World) (hG : Good w)
    (cA : ∀ w1, Good w1 → Calls Tryd.prog 10 #[.string ((⟨#[91]⟩ : ByteArray) ++ s ++ ⟨#[93]⟩)] w1 fun e w' => e = .returned (.tuple #[.agg #[.int .i64 3, .string ⟨#[]⟩, .int .i64 0, .int .i64 y0, .int .i64 y1, .int .i64 y2, .int .i64 y3, .int .i64 y4, .int .i64 y5, .int .i64 y6, .int .i64 y7], .bool true]) ∧ Below w1.heap.size w1 w')
    (cB : ∀ w1, Good w1 → Calls Tryd.prog 12 #[.string s] w1 fun e w' => e = .returned (.tuple #[.agg #[.int .i64 y0, .int .i64 y1, .int .i64 y2, .int .i64 y3, .int .i64 y4, .int .i64 y5, .int .i64 y6, .int .i64 y7], .bool true]) ∧ Below w1.heap.size w1 w')
    (cC : ∀ w1, Good w1 → Calls Tryd.prog 10 #[.string s] w1 fun e w' => e = .returned (.tuple #[.agg #[.int .i64 0, .string ⟨#[]⟩, .int .i64 0, .int .i64 0, .int .i64 0, .int .i64 0, .int .i64 0, .int .i64 0, .int .i64 0, .int .i64 0, .int .i64 0], .bool false]) ∧ Below w1.heap.size w1 w')
    (cD : ∀ w1, Good w1 → Calls Tryd.prog 13 #[.string s] w1 fun e w' => e = .returned (.tuple #[.int .i64 m, .bool false]) ∧ Below w1.heap.size w1 w')
    (cL : ∀ w1, Good w1 → Calls Tryd.prog 14 #[.string s] w1 fun e w' => e = .returned (.bool true) ∧ Drawn0 w1 w')
    (h0 : 0 < s.size) (c : UInt8) (hg : s[0]'h0 = c) (q : ((c.toNat : Int) == 91) = false) :
    Calls Tryd.prog 6 #[.string s] w fun e w' => e = .returned (.bool true) ∧ Below w.heap.size w w' := by
  have hd : decide ((150 : Int) < (s.size : Int)) = false := decide_eq_false (by omega)
  have hd0 : decide ((0 : Int) < (s.size : Int)) = true := decide_eq_true (by omega)
  have hE : ∀ w : World, (Op.equalIn 10000 22 (.agg #[.int .i64 y0, .int .i64 y1, .int .i64 y2, .int .i64 y3, .int .i64 y4, .int .i64 y5, .int .i64 y6, .int .i64 y7]) (.agg #[.int .i64 y0, .int .i64 y1, .int .i64 y2, .int .i64 y3, .int .i64 y4, .int .i64 y5, .int .i64 y6, .int .i64 y7])).run Tryd.prog w = .ok true w := fun w => (eq8 (p := [y0, y1, y2, y3, y4, y5, y6, y7]) (q := [y0, y1, y2, y3, y4, y5, y6, y7]) rfl rfl w).trans (by rw [beq_self_eq_true])
  have hk0 := Ok.refl hG
  go_enter Tryd.func6, Tryd.ntmps6
  go_wp2_with fail
  refine (awake7 w hk0.good).mono ?_
  rintro e w1 ⟨rfl, hb1⟩
  have hkc1 := hk0.step hb1
  go_wp2_with fail
  refine (cA w1 hkc1.good).mono ?_
  rintro e w2 ⟨rfl, hb2⟩
  have hkc2 := hkc1.step hb2
  have rA1 := heap_alloc_new w2 (.cells #[.int .i64 3, .string ⟨#[]⟩, .int .i64 0, .int .i64 y0, .int .i64 y1, .int .i64 y2, .int .i64 y3, .int .i64 y4, .int .i64 y5, .int .i64 y6, .int .i64 y7] 24)
  have hka1 := hkc2.alloc (.cells #[.int .i64 3, .string ⟨#[]⟩, .int .i64 0, .int .i64 y0, .int .i64 y1, .int .i64 y2, .int .i64 y3, .int .i64 y4, .int .i64 y5, .int .i64 y6, .int .i64 y7] 24)
  go_wp2_with fail
  refine (cB (w2.alloc (.cells #[.int .i64 3, .string ⟨#[]⟩, .int .i64 0, .int .i64 y0, .int .i64 y1, .int .i64 y2, .int .i64 y3, .int .i64 y4, .int .i64 y5, .int .i64 y6, .int .i64 y7] 24)) hka1.good).mono ?_
  rintro e w3 ⟨rfl, hb3⟩
  have hkc3 := hka1.step hb3
  have rA2 := block_below rA1 hb3 (lt_of_block rA1)
  have rAa3 := block_alloc rA2 (.cells #[.int .i64 y0, .int .i64 y1, .int .i64 y2, .int .i64 y3, .int .i64 y4, .int .i64 y5, .int .i64 y6, .int .i64 y7] 22)
  have rB3 := heap_alloc_new w3 (.cells #[.int .i64 y0, .int .i64 y1, .int .i64 y2, .int .i64 y3, .int .i64 y4, .int .i64 y5, .int .i64 y6, .int .i64 y7] 22)
  have hka3 := hkc3.alloc (.cells #[.int .i64 y0, .int .i64 y1, .int .i64 y2, .int .i64 y3, .int .i64 y4, .int .i64 y5, .int .i64 y6, .int .i64 y7] 22)
  obtain ⟨cA0, cA1, cA2, cA3, cA4, cA5, cA6, cA7, cA8, cA9, cA10⟩ := host_cells rAa3
  obtain ⟨cB0, cB1, cB2, cB3, cB4, cB5, cB6, cB7⟩ := eight_cells rB3
  go_wp2_with fail
  refine (cC (w3.alloc (.cells #[.int .i64 y0, .int .i64 y1, .int .i64 y2, .int .i64 y3, .int .i64 y4, .int .i64 y5, .int .i64 y6, .int .i64 y7] 22)) hka3.good).mono ?_
  rintro e w4 ⟨rfl, hb4⟩
  have hkc4 := hka3.step hb4
  clear cA0 cA1 cA2 cA3 cA4 cA5 cA6 cA7 cA8 cA9 cA10 cB0 cB1 cB2 cB3 cB4 cB5 cB6 cB7
  have rA4 := block_below rAa3 hb4 (lt_of_block rAa3)
  have rB5 := block_below rB3 hb4 (lt_of_block rB3)
  have rC6 := heap_alloc_new w4 (.cells #[.int .i64 0, .string ⟨#[]⟩, .int .i64 0, .int .i64 0, .int .i64 0, .int .i64 0, .int .i64 0, .int .i64 0, .int .i64 0, .int .i64 0, .int .i64 0] 24)
  have hka6 := hkc4.alloc (.cells #[.int .i64 0, .string ⟨#[]⟩, .int .i64 0, .int .i64 0, .int .i64 0, .int .i64 0, .int .i64 0, .int .i64 0, .int .i64 0, .int .i64 0, .int .i64 0] 24)
  obtain ⟨cC0, cC1, cC2, cC3, cC4, cC5, cC6, cC7, cC8, cC9, cC10⟩ := host_cells rC6
  go_wp2_with fail
  refine (cD (w4.alloc (.cells #[.int .i64 0, .string ⟨#[]⟩, .int .i64 0, .int .i64 0, .int .i64 0, .int .i64 0, .int .i64 0, .int .i64 0, .int .i64 0, .int .i64 0, .int .i64 0] 24)) hka6.good).mono ?_
  rintro e w5 ⟨rfl, hb5⟩
  have hkc5 := hka6.step hb5
  clear cC0 cC1 cC2 cC3 cC4 cC5 cC6 cC7 cC8 cC9 cC10
  have rC7 := block_below rC6 hb5 (lt_of_block rC6)
  obtain ⟨cC0, cC1, cC2, cC3, cC4, cC5, cC6, cC7, cC8, cC9, cC10⟩ := host_cells rC7
  go_wp2_with fail
  refine (cL w5 hkc5.good).mono ?_
  rintro e w6 ⟨rfl, hd6⟩
  have hkc6 := hkc5.step hd6.below
  clear cC0 cC1 cC2 cC3 cC4 cC5 cC6 cC7 cC8 cC9 cC10
  have rC8 := block_below rC7 hd6.below (lt_of_block rC7)
  obtain ⟨cC0, cC1, cC2, cC3, cC4, cC5, cC6, cC7, cC8, cC9, cC10⟩ := host_cells rC8
  go_wp2
  go_ret
  exact ⟨rfl, hkc6.below⟩

set_option maxHeartbeats 8000000 in
set_option maxRecDepth 100000 in
set_option linter.unusedVariables false in
theorem kinds_y_dom_y_some (s : ByteArray) (hs : s.size ≤ 150) (y0 y1 y2 y3 y4 y5 y6 y7 : Int) (hl : ByteArray) (hn z0 z1 z2 z3 z4 z5 z6 z7 : Int) (m : Int) (num : Bool) (w : World) (hG : Good w)
    (cA : ∀ w1, Good w1 → Calls Tryd.prog 10 #[.string ((⟨#[91]⟩ : ByteArray) ++ s ++ ⟨#[93]⟩)] w1 fun e w' => e = .returned (.tuple #[.agg #[.int .i64 3, .string ⟨#[]⟩, .int .i64 0, .int .i64 y0, .int .i64 y1, .int .i64 y2, .int .i64 y3, .int .i64 y4, .int .i64 y5, .int .i64 y6, .int .i64 y7], .bool true]) ∧ Below w1.heap.size w1 w')
    (cB : ∀ w1, Good w1 → Calls Tryd.prog 12 #[.string s] w1 fun e w' => e = .returned (.tuple #[.agg #[.int .i64 y0, .int .i64 y1, .int .i64 y2, .int .i64 y3, .int .i64 y4, .int .i64 y5, .int .i64 y6, .int .i64 y7], .bool true]) ∧ Below w1.heap.size w1 w')
    (cC : ∀ w1, Good w1 → Calls Tryd.prog 10 #[.string s] w1 fun e w' => e = .returned (.tuple #[.agg #[.int .i64 1, .string hl, .int .i64 hn, .int .i64 z0, .int .i64 z1, .int .i64 z2, .int .i64 z3, .int .i64 z4, .int .i64 z5, .int .i64 z6, .int .i64 z7], .bool true]) ∧ Below w1.heap.size w1 w')
    (cD : ∀ w1, Good w1 → Calls Tryd.prog 13 #[.string s] w1 fun e w' => e = .returned (.tuple #[.int .i64 m, .bool num]) ∧ Below w1.heap.size w1 w')
    (cL : ∀ w1, Good w1 → Calls Tryd.prog 14 #[.string s] w1 fun e w' => e = .returned (.bool false) ∧ Drawn0 w1 w')
    (h0 : 0 < s.size) (c : UInt8) (hg : s[0]'h0 = c) (q : ((c.toNat : Int) == 91) = false) :
    Calls Tryd.prog 6 #[.string s] w fun e w' => e = .returned (.bool true) ∧ Below w.heap.size w w' := by
  have hd : decide ((150 : Int) < (s.size : Int)) = false := decide_eq_false (by omega)
  have hd0 : decide ((0 : Int) < (s.size : Int)) = true := decide_eq_true (by omega)
  have hE : ∀ w : World, (Op.equalIn 10000 22 (.agg #[.int .i64 y0, .int .i64 y1, .int .i64 y2, .int .i64 y3, .int .i64 y4, .int .i64 y5, .int .i64 y6, .int .i64 y7]) (.agg #[.int .i64 y0, .int .i64 y1, .int .i64 y2, .int .i64 y3, .int .i64 y4, .int .i64 y5, .int .i64 y6, .int .i64 y7])).run Tryd.prog w = .ok true w := fun w => (eq8 (p := [y0, y1, y2, y3, y4, y5, y6, y7]) (q := [y0, y1, y2, y3, y4, y5, y6, y7]) rfl rfl w).trans (by rw [beq_self_eq_true])
  have hk0 := Ok.refl hG
  go_enter Tryd.func6, Tryd.ntmps6
  go_wp2_with fail
  refine (awake7 w hk0.good).mono ?_
  rintro e w1 ⟨rfl, hb1⟩
  have hkc1 := hk0.step hb1
  go_wp2_with fail
  refine (cA w1 hkc1.good).mono ?_
  rintro e w2 ⟨rfl, hb2⟩
  have hkc2 := hkc1.step hb2
  have rA1 := heap_alloc_new w2 (.cells #[.int .i64 3, .string ⟨#[]⟩, .int .i64 0, .int .i64 y0, .int .i64 y1, .int .i64 y2, .int .i64 y3, .int .i64 y4, .int .i64 y5, .int .i64 y6, .int .i64 y7] 24)
  have hka1 := hkc2.alloc (.cells #[.int .i64 3, .string ⟨#[]⟩, .int .i64 0, .int .i64 y0, .int .i64 y1, .int .i64 y2, .int .i64 y3, .int .i64 y4, .int .i64 y5, .int .i64 y6, .int .i64 y7] 24)
  go_wp2_with fail
  refine (cB (w2.alloc (.cells #[.int .i64 3, .string ⟨#[]⟩, .int .i64 0, .int .i64 y0, .int .i64 y1, .int .i64 y2, .int .i64 y3, .int .i64 y4, .int .i64 y5, .int .i64 y6, .int .i64 y7] 24)) hka1.good).mono ?_
  rintro e w3 ⟨rfl, hb3⟩
  have hkc3 := hka1.step hb3
  have rA2 := block_below rA1 hb3 (lt_of_block rA1)
  have rAa3 := block_alloc rA2 (.cells #[.int .i64 y0, .int .i64 y1, .int .i64 y2, .int .i64 y3, .int .i64 y4, .int .i64 y5, .int .i64 y6, .int .i64 y7] 22)
  have rB3 := heap_alloc_new w3 (.cells #[.int .i64 y0, .int .i64 y1, .int .i64 y2, .int .i64 y3, .int .i64 y4, .int .i64 y5, .int .i64 y6, .int .i64 y7] 22)
  have hka3 := hkc3.alloc (.cells #[.int .i64 y0, .int .i64 y1, .int .i64 y2, .int .i64 y3, .int .i64 y4, .int .i64 y5, .int .i64 y6, .int .i64 y7] 22)
  obtain ⟨cA0, cA1, cA2, cA3, cA4, cA5, cA6, cA7, cA8, cA9, cA10⟩ := host_cells rAa3
  obtain ⟨cB0, cB1, cB2, cB3, cB4, cB5, cB6, cB7⟩ := eight_cells rB3
  go_wp2_with fail
  refine (cC (w3.alloc (.cells #[.int .i64 y0, .int .i64 y1, .int .i64 y2, .int .i64 y3, .int .i64 y4, .int .i64 y5, .int .i64 y6, .int .i64 y7] 22)) hka3.good).mono ?_
  rintro e w4 ⟨rfl, hb4⟩
  have hkc4 := hka3.step hb4
  clear cA0 cA1 cA2 cA3 cA4 cA5 cA6 cA7 cA8 cA9 cA10 cB0 cB1 cB2 cB3 cB4 cB5 cB6 cB7
  have rA4 := block_below rAa3 hb4 (lt_of_block rAa3)
  have rB5 := block_below rB3 hb4 (lt_of_block rB3)
  have rC6 := heap_alloc_new w4 (.cells #[.int .i64 1, .string hl, .int .i64 hn, .int .i64 z0, .int .i64 z1, .int .i64 z2, .int .i64 z3, .int .i64 z4, .int .i64 z5, .int .i64 z6, .int .i64 z7] 24)
  have hka6 := hkc4.alloc (.cells #[.int .i64 1, .string hl, .int .i64 hn, .int .i64 z0, .int .i64 z1, .int .i64 z2, .int .i64 z3, .int .i64 z4, .int .i64 z5, .int .i64 z6, .int .i64 z7] 24)
  obtain ⟨cC0, cC1, cC2, cC3, cC4, cC5, cC6, cC7, cC8, cC9, cC10⟩ := host_cells rC6
  go_wp2_with fail
  refine (cD (w4.alloc (.cells #[.int .i64 1, .string hl, .int .i64 hn, .int .i64 z0, .int .i64 z1, .int .i64 z2, .int .i64 z3, .int .i64 z4, .int .i64 z5, .int .i64 z6, .int .i64 z7] 24)) hka6.good).mono ?_
  rintro e w5 ⟨rfl, hb5⟩
  have hkc5 := hka6.step hb5
  clear cC0 cC1 cC2 cC3 cC4 cC5 cC6 cC7 cC8 cC9 cC10
  have rC7 := block_below rC6 hb5 (lt_of_block rC6)
  obtain ⟨cC0, cC1, cC2, cC3, cC4, cC5, cC6, cC7, cC8, cC9, cC10⟩ := host_cells rC7
  go_wp2_with fail
  refine (cL w5 hkc5.good).mono ?_
  rintro e w6 ⟨rfl, hd6⟩
  have hkc6 := hkc5.step hd6.below
  clear cC0 cC1 cC2 cC3 cC4 cC5 cC6 cC7 cC8 cC9 cC10
  have rC8 := block_below rC7 hd6.below (lt_of_block rC7)
  obtain ⟨cC0, cC1, cC2, cC3, cC4, cC5, cC6, cC7, cC8, cC9, cC10⟩ := host_cells rC8
  go_wp2
  go_ret
  exact ⟨rfl, hkc6.below⟩

set_option maxHeartbeats 8000000 in
set_option maxRecDepth 100000 in
set_option linter.unusedVariables false in
theorem kinds_y_dom_n_some (s : ByteArray) (hs : s.size ≤ 150) (y0 y1 y2 y3 y4 y5 y6 y7 : Int) (m : Int) (num : Bool) (w : World) (hG : Good w)
    (cA : ∀ w1, Good w1 → Calls Tryd.prog 10 #[.string ((⟨#[91]⟩ : ByteArray) ++ s ++ ⟨#[93]⟩)] w1 fun e w' => e = .returned (.tuple #[.agg #[.int .i64 3, .string ⟨#[]⟩, .int .i64 0, .int .i64 y0, .int .i64 y1, .int .i64 y2, .int .i64 y3, .int .i64 y4, .int .i64 y5, .int .i64 y6, .int .i64 y7], .bool true]) ∧ Below w1.heap.size w1 w')
    (cB : ∀ w1, Good w1 → Calls Tryd.prog 12 #[.string s] w1 fun e w' => e = .returned (.tuple #[.agg #[.int .i64 y0, .int .i64 y1, .int .i64 y2, .int .i64 y3, .int .i64 y4, .int .i64 y5, .int .i64 y6, .int .i64 y7], .bool true]) ∧ Below w1.heap.size w1 w')
    (cC : ∀ w1, Good w1 → Calls Tryd.prog 10 #[.string s] w1 fun e w' => e = .returned (.tuple #[.agg #[.int .i64 0, .string ⟨#[]⟩, .int .i64 0, .int .i64 0, .int .i64 0, .int .i64 0, .int .i64 0, .int .i64 0, .int .i64 0, .int .i64 0, .int .i64 0], .bool false]) ∧ Below w1.heap.size w1 w')
    (cD : ∀ w1, Good w1 → Calls Tryd.prog 13 #[.string s] w1 fun e w' => e = .returned (.tuple #[.int .i64 m, .bool num]) ∧ Below w1.heap.size w1 w')
    (cL : ∀ w1, Good w1 → Calls Tryd.prog 14 #[.string s] w1 fun e w' => e = .returned (.bool false) ∧ Drawn0 w1 w')
    (h0 : 0 < s.size) (c : UInt8) (hg : s[0]'h0 = c) (q : ((c.toNat : Int) == 91) = false) :
    Calls Tryd.prog 6 #[.string s] w fun e w' => e = .returned (.bool true) ∧ Below w.heap.size w w' := by
  have hd : decide ((150 : Int) < (s.size : Int)) = false := decide_eq_false (by omega)
  have hd0 : decide ((0 : Int) < (s.size : Int)) = true := decide_eq_true (by omega)
  have hE : ∀ w : World, (Op.equalIn 10000 22 (.agg #[.int .i64 y0, .int .i64 y1, .int .i64 y2, .int .i64 y3, .int .i64 y4, .int .i64 y5, .int .i64 y6, .int .i64 y7]) (.agg #[.int .i64 y0, .int .i64 y1, .int .i64 y2, .int .i64 y3, .int .i64 y4, .int .i64 y5, .int .i64 y6, .int .i64 y7])).run Tryd.prog w = .ok true w := fun w => (eq8 (p := [y0, y1, y2, y3, y4, y5, y6, y7]) (q := [y0, y1, y2, y3, y4, y5, y6, y7]) rfl rfl w).trans (by rw [beq_self_eq_true])
  have hk0 := Ok.refl hG
  go_enter Tryd.func6, Tryd.ntmps6
  go_wp2_with fail
  refine (awake7 w hk0.good).mono ?_
  rintro e w1 ⟨rfl, hb1⟩
  have hkc1 := hk0.step hb1
  go_wp2_with fail
  refine (cA w1 hkc1.good).mono ?_
  rintro e w2 ⟨rfl, hb2⟩
  have hkc2 := hkc1.step hb2
  have rA1 := heap_alloc_new w2 (.cells #[.int .i64 3, .string ⟨#[]⟩, .int .i64 0, .int .i64 y0, .int .i64 y1, .int .i64 y2, .int .i64 y3, .int .i64 y4, .int .i64 y5, .int .i64 y6, .int .i64 y7] 24)
  have hka1 := hkc2.alloc (.cells #[.int .i64 3, .string ⟨#[]⟩, .int .i64 0, .int .i64 y0, .int .i64 y1, .int .i64 y2, .int .i64 y3, .int .i64 y4, .int .i64 y5, .int .i64 y6, .int .i64 y7] 24)
  go_wp2_with fail
  refine (cB (w2.alloc (.cells #[.int .i64 3, .string ⟨#[]⟩, .int .i64 0, .int .i64 y0, .int .i64 y1, .int .i64 y2, .int .i64 y3, .int .i64 y4, .int .i64 y5, .int .i64 y6, .int .i64 y7] 24)) hka1.good).mono ?_
  rintro e w3 ⟨rfl, hb3⟩
  have hkc3 := hka1.step hb3
  have rA2 := block_below rA1 hb3 (lt_of_block rA1)
  have rAa3 := block_alloc rA2 (.cells #[.int .i64 y0, .int .i64 y1, .int .i64 y2, .int .i64 y3, .int .i64 y4, .int .i64 y5, .int .i64 y6, .int .i64 y7] 22)
  have rB3 := heap_alloc_new w3 (.cells #[.int .i64 y0, .int .i64 y1, .int .i64 y2, .int .i64 y3, .int .i64 y4, .int .i64 y5, .int .i64 y6, .int .i64 y7] 22)
  have hka3 := hkc3.alloc (.cells #[.int .i64 y0, .int .i64 y1, .int .i64 y2, .int .i64 y3, .int .i64 y4, .int .i64 y5, .int .i64 y6, .int .i64 y7] 22)
  obtain ⟨cA0, cA1, cA2, cA3, cA4, cA5, cA6, cA7, cA8, cA9, cA10⟩ := host_cells rAa3
  obtain ⟨cB0, cB1, cB2, cB3, cB4, cB5, cB6, cB7⟩ := eight_cells rB3
  go_wp2_with fail
  refine (cC (w3.alloc (.cells #[.int .i64 y0, .int .i64 y1, .int .i64 y2, .int .i64 y3, .int .i64 y4, .int .i64 y5, .int .i64 y6, .int .i64 y7] 22)) hka3.good).mono ?_
  rintro e w4 ⟨rfl, hb4⟩
  have hkc4 := hka3.step hb4
  clear cA0 cA1 cA2 cA3 cA4 cA5 cA6 cA7 cA8 cA9 cA10 cB0 cB1 cB2 cB3 cB4 cB5 cB6 cB7
  have rA4 := block_below rAa3 hb4 (lt_of_block rAa3)
  have rB5 := block_below rB3 hb4 (lt_of_block rB3)
  have rC6 := heap_alloc_new w4 (.cells #[.int .i64 0, .string ⟨#[]⟩, .int .i64 0, .int .i64 0, .int .i64 0, .int .i64 0, .int .i64 0, .int .i64 0, .int .i64 0, .int .i64 0, .int .i64 0] 24)
  have hka6 := hkc4.alloc (.cells #[.int .i64 0, .string ⟨#[]⟩, .int .i64 0, .int .i64 0, .int .i64 0, .int .i64 0, .int .i64 0, .int .i64 0, .int .i64 0, .int .i64 0, .int .i64 0] 24)
  obtain ⟨cC0, cC1, cC2, cC3, cC4, cC5, cC6, cC7, cC8, cC9, cC10⟩ := host_cells rC6
  go_wp2_with fail
  refine (cD (w4.alloc (.cells #[.int .i64 0, .string ⟨#[]⟩, .int .i64 0, .int .i64 0, .int .i64 0, .int .i64 0, .int .i64 0, .int .i64 0, .int .i64 0, .int .i64 0, .int .i64 0] 24)) hka6.good).mono ?_
  rintro e w5 ⟨rfl, hb5⟩
  have hkc5 := hka6.step hb5
  clear cC0 cC1 cC2 cC3 cC4 cC5 cC6 cC7 cC8 cC9 cC10
  have rC7 := block_below rC6 hb5 (lt_of_block rC6)
  obtain ⟨cC0, cC1, cC2, cC3, cC4, cC5, cC6, cC7, cC8, cC9, cC10⟩ := host_cells rC7
  go_wp2_with fail
  refine (cL w5 hkc5.good).mono ?_
  rintro e w6 ⟨rfl, hd6⟩
  have hkc6 := hkc5.step hd6.below
  clear cC0 cC1 cC2 cC3 cC4 cC5 cC6 cC7 cC8 cC9 cC10
  have rC8 := block_below rC7 hd6.below (lt_of_block rC7)
  obtain ⟨cC0, cC1, cC2, cC3, cC4, cC5, cC6, cC7, cC8, cC9, cC10⟩ := host_cells rC8
  go_wp2
  go_ret
  exact ⟨rfl, hkc6.below⟩

set_option maxHeartbeats 8000000 in
set_option maxRecDepth 100000 in
set_option linter.unusedVariables false in
theorem kinds_y_dom_n_none (s : ByteArray) (hs : s.size ≤ 150) (y0 y1 y2 y3 y4 y5 y6 y7 : Int) (m : Int) (num : Bool) (w : World) (hG : Good w)
    (cA : ∀ w1, Good w1 → Calls Tryd.prog 10 #[.string ((⟨#[91]⟩ : ByteArray) ++ s ++ ⟨#[93]⟩)] w1 fun e w' => e = .returned (.tuple #[.agg #[.int .i64 3, .string ⟨#[]⟩, .int .i64 0, .int .i64 y0, .int .i64 y1, .int .i64 y2, .int .i64 y3, .int .i64 y4, .int .i64 y5, .int .i64 y6, .int .i64 y7], .bool true]) ∧ Below w1.heap.size w1 w')
    (cB : ∀ w1, Good w1 → Calls Tryd.prog 12 #[.string s] w1 fun e w' => e = .returned (.tuple #[.agg #[.int .i64 y0, .int .i64 y1, .int .i64 y2, .int .i64 y3, .int .i64 y4, .int .i64 y5, .int .i64 y6, .int .i64 y7], .bool true]) ∧ Below w1.heap.size w1 w')
    (cC : ∀ w1, Good w1 → Calls Tryd.prog 10 #[.string s] w1 fun e w' => e = .returned (.tuple #[.agg #[.int .i64 0, .string ⟨#[]⟩, .int .i64 0, .int .i64 0, .int .i64 0, .int .i64 0, .int .i64 0, .int .i64 0, .int .i64 0, .int .i64 0, .int .i64 0], .bool false]) ∧ Below w1.heap.size w1 w')
    (cD : ∀ w1, Good w1 → Calls Tryd.prog 13 #[.string s] w1 fun e w' => e = .returned (.tuple #[.int .i64 m, .bool num]) ∧ Below w1.heap.size w1 w')
    (cL : ∀ w1, Good w1 → Calls Tryd.prog 14 #[.string s] w1 fun e w' => e = .returned (.bool false) ∧ Drawn0 w1 w')
    (h0 : s.size = 0) :
    Calls Tryd.prog 6 #[.string s] w fun e w' => e = .returned (.bool true) ∧ Below w.heap.size w w' := by
  have hd : decide ((150 : Int) < (s.size : Int)) = false := decide_eq_false (by omega)
  have hd0 : decide ((0 : Int) < (s.size : Int)) = false := decide_eq_false (by omega)
  have hE : ∀ w : World, (Op.equalIn 10000 22 (.agg #[.int .i64 y0, .int .i64 y1, .int .i64 y2, .int .i64 y3, .int .i64 y4, .int .i64 y5, .int .i64 y6, .int .i64 y7]) (.agg #[.int .i64 y0, .int .i64 y1, .int .i64 y2, .int .i64 y3, .int .i64 y4, .int .i64 y5, .int .i64 y6, .int .i64 y7])).run Tryd.prog w = .ok true w := fun w => (eq8 (p := [y0, y1, y2, y3, y4, y5, y6, y7]) (q := [y0, y1, y2, y3, y4, y5, y6, y7]) rfl rfl w).trans (by rw [beq_self_eq_true])
  have hk0 := Ok.refl hG
  go_enter Tryd.func6, Tryd.ntmps6
  go_wp2_with fail
  refine (awake7 w hk0.good).mono ?_
  rintro e w1 ⟨rfl, hb1⟩
  have hkc1 := hk0.step hb1
  go_wp2_with fail
  refine (cA w1 hkc1.good).mono ?_
  rintro e w2 ⟨rfl, hb2⟩
  have hkc2 := hkc1.step hb2
  have rA1 := heap_alloc_new w2 (.cells #[.int .i64 3, .string ⟨#[]⟩, .int .i64 0, .int .i64 y0, .int .i64 y1, .int .i64 y2, .int .i64 y3, .int .i64 y4, .int .i64 y5, .int .i64 y6, .int .i64 y7] 24)
  have hka1 := hkc2.alloc (.cells #[.int .i64 3, .string ⟨#[]⟩, .int .i64 0, .int .i64 y0, .int .i64 y1, .int .i64 y2, .int .i64 y3, .int .i64 y4, .int .i64 y5, .int .i64 y6, .int .i64 y7] 24)
  go_wp2_with fail
  refine (cB (w2.alloc (.cells #[.int .i64 3, .string ⟨#[]⟩, .int .i64 0, .int .i64 y0, .int .i64 y1, .int .i64 y2, .int .i64 y3, .int .i64 y4, .int .i64 y5, .int .i64 y6, .int .i64 y7] 24)) hka1.good).mono ?_
  rintro e w3 ⟨rfl, hb3⟩
  have hkc3 := hka1.step hb3
  have rA2 := block_below rA1 hb3 (lt_of_block rA1)
  have rAa3 := block_alloc rA2 (.cells #[.int .i64 y0, .int .i64 y1, .int .i64 y2, .int .i64 y3, .int .i64 y4, .int .i64 y5, .int .i64 y6, .int .i64 y7] 22)
  have rB3 := heap_alloc_new w3 (.cells #[.int .i64 y0, .int .i64 y1, .int .i64 y2, .int .i64 y3, .int .i64 y4, .int .i64 y5, .int .i64 y6, .int .i64 y7] 22)
  have hka3 := hkc3.alloc (.cells #[.int .i64 y0, .int .i64 y1, .int .i64 y2, .int .i64 y3, .int .i64 y4, .int .i64 y5, .int .i64 y6, .int .i64 y7] 22)
  obtain ⟨cA0, cA1, cA2, cA3, cA4, cA5, cA6, cA7, cA8, cA9, cA10⟩ := host_cells rAa3
  obtain ⟨cB0, cB1, cB2, cB3, cB4, cB5, cB6, cB7⟩ := eight_cells rB3
  go_wp2_with fail
  refine (cC (w3.alloc (.cells #[.int .i64 y0, .int .i64 y1, .int .i64 y2, .int .i64 y3, .int .i64 y4, .int .i64 y5, .int .i64 y6, .int .i64 y7] 22)) hka3.good).mono ?_
  rintro e w4 ⟨rfl, hb4⟩
  have hkc4 := hka3.step hb4
  clear cA0 cA1 cA2 cA3 cA4 cA5 cA6 cA7 cA8 cA9 cA10 cB0 cB1 cB2 cB3 cB4 cB5 cB6 cB7
  have rA4 := block_below rAa3 hb4 (lt_of_block rAa3)
  have rB5 := block_below rB3 hb4 (lt_of_block rB3)
  have rC6 := heap_alloc_new w4 (.cells #[.int .i64 0, .string ⟨#[]⟩, .int .i64 0, .int .i64 0, .int .i64 0, .int .i64 0, .int .i64 0, .int .i64 0, .int .i64 0, .int .i64 0, .int .i64 0] 24)
  have hka6 := hkc4.alloc (.cells #[.int .i64 0, .string ⟨#[]⟩, .int .i64 0, .int .i64 0, .int .i64 0, .int .i64 0, .int .i64 0, .int .i64 0, .int .i64 0, .int .i64 0, .int .i64 0] 24)
  obtain ⟨cC0, cC1, cC2, cC3, cC4, cC5, cC6, cC7, cC8, cC9, cC10⟩ := host_cells rC6
  go_wp2_with fail
  refine (cD (w4.alloc (.cells #[.int .i64 0, .string ⟨#[]⟩, .int .i64 0, .int .i64 0, .int .i64 0, .int .i64 0, .int .i64 0, .int .i64 0, .int .i64 0, .int .i64 0, .int .i64 0] 24)) hka6.good).mono ?_
  rintro e w5 ⟨rfl, hb5⟩
  have hkc5 := hka6.step hb5
  clear cC0 cC1 cC2 cC3 cC4 cC5 cC6 cC7 cC8 cC9 cC10
  have rC7 := block_below rC6 hb5 (lt_of_block rC6)
  obtain ⟨cC0, cC1, cC2, cC3, cC4, cC5, cC6, cC7, cC8, cC9, cC10⟩ := host_cells rC7
  go_wp2_with fail
  refine (cL w5 hkc5.good).mono ?_
  rintro e w6 ⟨rfl, hd6⟩
  have hkc6 := hkc5.step hd6.below
  clear cC0 cC1 cC2 cC3 cC4 cC5 cC6 cC7 cC8 cC9 cC10
  have rC8 := block_below rC7 hd6.below (lt_of_block rC7)
  obtain ⟨cC0, cC1, cC2, cC3, cC4, cC5, cC6, cC7, cC8, cC9, cC10⟩ := host_cells rC8
  go_wp2
  go_ret
  exact ⟨rfl, hkc6.below⟩

set_option maxHeartbeats 8000000 in
set_option maxRecDepth 100000 in
set_option linter.unusedVariables false in
theorem kinds_n_pre_y_some (s : ByteArray) (hs : s.size ≤ 150) (y0 y1 y2 y3 y4 y5 y6 y7 : Int) (hl : ByteArray) (hn z0 z1 z2 z3 z4 z5 z6 z7 : Int) (m : Int) (num : Bool) (w : World) (hG : Good w)
    (cA : ∀ w1, Good w1 → Calls Tryd.prog 10 #[.string ((⟨#[91]⟩ : ByteArray) ++ s ++ ⟨#[93]⟩)] w1 fun e w' => e = .returned (.tuple #[.agg #[.int .i64 0, .string ⟨#[]⟩, .int .i64 0, .int .i64 0, .int .i64 0, .int .i64 0, .int .i64 0, .int .i64 0, .int .i64 0, .int .i64 0, .int .i64 0], .bool false]) ∧ Below w1.heap.size w1 w')
    (cB : ∀ w1, Good w1 → Calls Tryd.prog 12 #[.string s] w1 fun e w' => e = .returned (.tuple #[.agg #[.int .i64 y0, .int .i64 y1, .int .i64 y2, .int .i64 y3, .int .i64 y4, .int .i64 y5, .int .i64 y6, .int .i64 y7], .bool false]) ∧ Below w1.heap.size w1 w')
    (cC : ∀ w1, Good w1 → Calls Tryd.prog 10 #[.string s] w1 fun e w' => e = .returned (.tuple #[.agg #[.int .i64 3, .string hl, .int .i64 hn, .int .i64 z0, .int .i64 z1, .int .i64 z2, .int .i64 z3, .int .i64 z4, .int .i64 z5, .int .i64 z6, .int .i64 z7], .bool true]) ∧ Below w1.heap.size w1 w')
    (h0 : 0 < s.size) (c : UInt8) (hg : s[0]'h0 = c) (q : ((c.toNat : Int) == 91) = true) :
    Calls Tryd.prog 6 #[.string s] w fun e w' => e = .returned (.bool true) ∧ Below w.heap.size w w' := by
  have hd : decide ((150 : Int) < (s.size : Int)) = false := decide_eq_false (by omega)
  have hd0 : decide ((0 : Int) < (s.size : Int)) = true := decide_eq_true (by omega)
  have hk0 := Ok.refl hG
  go_enter Tryd.func6, Tryd.ntmps6
  go_wp2_with fail
  refine (awake7 w hk0.good).mono ?_
  rintro e w1 ⟨rfl, hb1⟩
  have hkc1 := hk0.step hb1
  go_wp2_with fail
  refine (cA w1 hkc1.good).mono ?_
  rintro e w2 ⟨rfl, hb2⟩
  have hkc2 := hkc1.step hb2
  have rA1 := heap_alloc_new w2 (.cells #[.int .i64 0, .string ⟨#[]⟩, .int .i64 0, .int .i64 0, .int .i64 0, .int .i64 0, .int .i64 0, .int .i64 0, .int .i64 0, .int .i64 0, .int .i64 0] 24)
  have hka1 := hkc2.alloc (.cells #[.int .i64 0, .string ⟨#[]⟩, .int .i64 0, .int .i64 0, .int .i64 0, .int .i64 0, .int .i64 0, .int .i64 0, .int .i64 0, .int .i64 0, .int .i64 0] 24)
  go_wp2_with fail
  refine (cB (w2.alloc (.cells #[.int .i64 0, .string ⟨#[]⟩, .int .i64 0, .int .i64 0, .int .i64 0, .int .i64 0, .int .i64 0, .int .i64 0, .int .i64 0, .int .i64 0, .int .i64 0] 24)) hka1.good).mono ?_
  rintro e w3 ⟨rfl, hb3⟩
  have hkc3 := hka1.step hb3
  have rA2 := block_below rA1 hb3 (lt_of_block rA1)
  have rAa3 := block_alloc rA2 (.cells #[.int .i64 y0, .int .i64 y1, .int .i64 y2, .int .i64 y3, .int .i64 y4, .int .i64 y5, .int .i64 y6, .int .i64 y7] 22)
  have rB3 := heap_alloc_new w3 (.cells #[.int .i64 y0, .int .i64 y1, .int .i64 y2, .int .i64 y3, .int .i64 y4, .int .i64 y5, .int .i64 y6, .int .i64 y7] 22)
  have hka3 := hkc3.alloc (.cells #[.int .i64 y0, .int .i64 y1, .int .i64 y2, .int .i64 y3, .int .i64 y4, .int .i64 y5, .int .i64 y6, .int .i64 y7] 22)
  obtain ⟨cA0, cA1, cA2, cA3, cA4, cA5, cA6, cA7, cA8, cA9, cA10⟩ := host_cells rAa3
  obtain ⟨cB0, cB1, cB2, cB3, cB4, cB5, cB6, cB7⟩ := eight_cells rB3
  go_wp2_with fail
  refine (cC (w3.alloc (.cells #[.int .i64 y0, .int .i64 y1, .int .i64 y2, .int .i64 y3, .int .i64 y4, .int .i64 y5, .int .i64 y6, .int .i64 y7] 22)) hka3.good).mono ?_
  rintro e w4 ⟨rfl, hb4⟩
  have hkc4 := hka3.step hb4
  clear cA0 cA1 cA2 cA3 cA4 cA5 cA6 cA7 cA8 cA9 cA10 cB0 cB1 cB2 cB3 cB4 cB5 cB6 cB7
  have rA4 := block_below rAa3 hb4 (lt_of_block rAa3)
  have rB5 := block_below rB3 hb4 (lt_of_block rB3)
  have rC6 := heap_alloc_new w4 (.cells #[.int .i64 3, .string hl, .int .i64 hn, .int .i64 z0, .int .i64 z1, .int .i64 z2, .int .i64 z3, .int .i64 z4, .int .i64 z5, .int .i64 z6, .int .i64 z7] 24)
  have hka6 := hkc4.alloc (.cells #[.int .i64 3, .string hl, .int .i64 hn, .int .i64 z0, .int .i64 z1, .int .i64 z2, .int .i64 z3, .int .i64 z4, .int .i64 z5, .int .i64 z6, .int .i64 z7] 24)
  obtain ⟨cC0, cC1, cC2, cC3, cC4, cC5, cC6, cC7, cC8, cC9, cC10⟩ := host_cells rC6
  go_wp2
  go_ret
  exact ⟨rfl, hka6.below⟩

set_option maxHeartbeats 8000000 in
set_option maxRecDepth 100000 in
set_option linter.unusedVariables false in
theorem kinds_n_pre_n_some (s : ByteArray) (hs : s.size ≤ 150) (y0 y1 y2 y3 y4 y5 y6 y7 : Int) (m : Int) (num : Bool) (w : World) (hG : Good w)
    (cA : ∀ w1, Good w1 → Calls Tryd.prog 10 #[.string ((⟨#[91]⟩ : ByteArray) ++ s ++ ⟨#[93]⟩)] w1 fun e w' => e = .returned (.tuple #[.agg #[.int .i64 0, .string ⟨#[]⟩, .int .i64 0, .int .i64 0, .int .i64 0, .int .i64 0, .int .i64 0, .int .i64 0, .int .i64 0, .int .i64 0, .int .i64 0], .bool false]) ∧ Below w1.heap.size w1 w')
    (cB : ∀ w1, Good w1 → Calls Tryd.prog 12 #[.string s] w1 fun e w' => e = .returned (.tuple #[.agg #[.int .i64 y0, .int .i64 y1, .int .i64 y2, .int .i64 y3, .int .i64 y4, .int .i64 y5, .int .i64 y6, .int .i64 y7], .bool false]) ∧ Below w1.heap.size w1 w')
    (cC : ∀ w1, Good w1 → Calls Tryd.prog 10 #[.string s] w1 fun e w' => e = .returned (.tuple #[.agg #[.int .i64 0, .string ⟨#[]⟩, .int .i64 0, .int .i64 0, .int .i64 0, .int .i64 0, .int .i64 0, .int .i64 0, .int .i64 0, .int .i64 0, .int .i64 0], .bool false]) ∧ Below w1.heap.size w1 w')
    (h0 : 0 < s.size) (c : UInt8) (hg : s[0]'h0 = c) (q : ((c.toNat : Int) == 91) = true) :
    Calls Tryd.prog 6 #[.string s] w fun e w' => e = .returned (.bool true) ∧ Below w.heap.size w w' := by
  have hd : decide ((150 : Int) < (s.size : Int)) = false := decide_eq_false (by omega)
  have hd0 : decide ((0 : Int) < (s.size : Int)) = true := decide_eq_true (by omega)
  have hk0 := Ok.refl hG
  go_enter Tryd.func6, Tryd.ntmps6
  go_wp2_with fail
  refine (awake7 w hk0.good).mono ?_
  rintro e w1 ⟨rfl, hb1⟩
  have hkc1 := hk0.step hb1
  go_wp2_with fail
  refine (cA w1 hkc1.good).mono ?_
  rintro e w2 ⟨rfl, hb2⟩
  have hkc2 := hkc1.step hb2
  have rA1 := heap_alloc_new w2 (.cells #[.int .i64 0, .string ⟨#[]⟩, .int .i64 0, .int .i64 0, .int .i64 0, .int .i64 0, .int .i64 0, .int .i64 0, .int .i64 0, .int .i64 0, .int .i64 0] 24)
  have hka1 := hkc2.alloc (.cells #[.int .i64 0, .string ⟨#[]⟩, .int .i64 0, .int .i64 0, .int .i64 0, .int .i64 0, .int .i64 0, .int .i64 0, .int .i64 0, .int .i64 0, .int .i64 0] 24)
  go_wp2_with fail
  refine (cB (w2.alloc (.cells #[.int .i64 0, .string ⟨#[]⟩, .int .i64 0, .int .i64 0, .int .i64 0, .int .i64 0, .int .i64 0, .int .i64 0, .int .i64 0, .int .i64 0, .int .i64 0] 24)) hka1.good).mono ?_
  rintro e w3 ⟨rfl, hb3⟩
  have hkc3 := hka1.step hb3
  have rA2 := block_below rA1 hb3 (lt_of_block rA1)
  have rAa3 := block_alloc rA2 (.cells #[.int .i64 y0, .int .i64 y1, .int .i64 y2, .int .i64 y3, .int .i64 y4, .int .i64 y5, .int .i64 y6, .int .i64 y7] 22)
  have rB3 := heap_alloc_new w3 (.cells #[.int .i64 y0, .int .i64 y1, .int .i64 y2, .int .i64 y3, .int .i64 y4, .int .i64 y5, .int .i64 y6, .int .i64 y7] 22)
  have hka3 := hkc3.alloc (.cells #[.int .i64 y0, .int .i64 y1, .int .i64 y2, .int .i64 y3, .int .i64 y4, .int .i64 y5, .int .i64 y6, .int .i64 y7] 22)
  obtain ⟨cA0, cA1, cA2, cA3, cA4, cA5, cA6, cA7, cA8, cA9, cA10⟩ := host_cells rAa3
  obtain ⟨cB0, cB1, cB2, cB3, cB4, cB5, cB6, cB7⟩ := eight_cells rB3
  go_wp2_with fail
  refine (cC (w3.alloc (.cells #[.int .i64 y0, .int .i64 y1, .int .i64 y2, .int .i64 y3, .int .i64 y4, .int .i64 y5, .int .i64 y6, .int .i64 y7] 22)) hka3.good).mono ?_
  rintro e w4 ⟨rfl, hb4⟩
  have hkc4 := hka3.step hb4
  clear cA0 cA1 cA2 cA3 cA4 cA5 cA6 cA7 cA8 cA9 cA10 cB0 cB1 cB2 cB3 cB4 cB5 cB6 cB7
  have rA4 := block_below rAa3 hb4 (lt_of_block rAa3)
  have rB5 := block_below rB3 hb4 (lt_of_block rB3)
  have rC6 := heap_alloc_new w4 (.cells #[.int .i64 0, .string ⟨#[]⟩, .int .i64 0, .int .i64 0, .int .i64 0, .int .i64 0, .int .i64 0, .int .i64 0, .int .i64 0, .int .i64 0, .int .i64 0] 24)
  have hka6 := hkc4.alloc (.cells #[.int .i64 0, .string ⟨#[]⟩, .int .i64 0, .int .i64 0, .int .i64 0, .int .i64 0, .int .i64 0, .int .i64 0, .int .i64 0, .int .i64 0, .int .i64 0] 24)
  obtain ⟨cC0, cC1, cC2, cC3, cC4, cC5, cC6, cC7, cC8, cC9, cC10⟩ := host_cells rC6
  go_wp2
  go_ret
  exact ⟨rfl, hka6.below⟩

set_option maxHeartbeats 8000000 in
set_option maxRecDepth 100000 in
set_option linter.unusedVariables false in
theorem kinds_n_num_y_some (s : ByteArray) (hs : s.size ≤ 150) (y0 y1 y2 y3 y4 y5 y6 y7 : Int) (hl : ByteArray) (hn z0 z1 z2 z3 z4 z5 z6 z7 : Int) (m : Int) (num : Bool) (w : World) (hG : Good w)
    (cA : ∀ w1, Good w1 → Calls Tryd.prog 10 #[.string ((⟨#[91]⟩ : ByteArray) ++ s ++ ⟨#[93]⟩)] w1 fun e w' => e = .returned (.tuple #[.agg #[.int .i64 0, .string ⟨#[]⟩, .int .i64 0, .int .i64 0, .int .i64 0, .int .i64 0, .int .i64 0, .int .i64 0, .int .i64 0, .int .i64 0, .int .i64 0], .bool false]) ∧ Below w1.heap.size w1 w')
    (cB : ∀ w1, Good w1 → Calls Tryd.prog 12 #[.string s] w1 fun e w' => e = .returned (.tuple #[.agg #[.int .i64 y0, .int .i64 y1, .int .i64 y2, .int .i64 y3, .int .i64 y4, .int .i64 y5, .int .i64 y6, .int .i64 y7], .bool false]) ∧ Below w1.heap.size w1 w')
    (cC : ∀ w1, Good w1 → Calls Tryd.prog 10 #[.string s] w1 fun e w' => e = .returned (.tuple #[.agg #[.int .i64 2, .string hl, .int .i64 m, .int .i64 z0, .int .i64 z1, .int .i64 z2, .int .i64 z3, .int .i64 z4, .int .i64 z5, .int .i64 z6, .int .i64 z7], .bool true]) ∧ Below w1.heap.size w1 w')
    (cD : ∀ w1, Good w1 → Calls Tryd.prog 13 #[.string s] w1 fun e w' => e = .returned (.tuple #[.int .i64 m, .bool true]) ∧ Below w1.heap.size w1 w')
    (cL : ∀ w1, Good w1 → Calls Tryd.prog 14 #[.string s] w1 fun e w' => e = .returned (.bool true) ∧ Drawn0 w1 w')
    (h0 : 0 < s.size) (c : UInt8) (hg : s[0]'h0 = c) (q : ((c.toNat : Int) == 91) = false) :
    Calls Tryd.prog 6 #[.string s] w fun e w' => e = .returned (.bool true) ∧ Below w.heap.size w w' := by
  have hd : decide ((150 : Int) < (s.size : Int)) = false := decide_eq_false (by omega)
  have hd0 : decide ((0 : Int) < (s.size : Int)) = true := decide_eq_true (by omega)
  have hk0 := Ok.refl hG
  go_enter Tryd.func6, Tryd.ntmps6
  go_wp2_with fail
  refine (awake7 w hk0.good).mono ?_
  rintro e w1 ⟨rfl, hb1⟩
  have hkc1 := hk0.step hb1
  go_wp2_with fail
  refine (cA w1 hkc1.good).mono ?_
  rintro e w2 ⟨rfl, hb2⟩
  have hkc2 := hkc1.step hb2
  have rA1 := heap_alloc_new w2 (.cells #[.int .i64 0, .string ⟨#[]⟩, .int .i64 0, .int .i64 0, .int .i64 0, .int .i64 0, .int .i64 0, .int .i64 0, .int .i64 0, .int .i64 0, .int .i64 0] 24)
  have hka1 := hkc2.alloc (.cells #[.int .i64 0, .string ⟨#[]⟩, .int .i64 0, .int .i64 0, .int .i64 0, .int .i64 0, .int .i64 0, .int .i64 0, .int .i64 0, .int .i64 0, .int .i64 0] 24)
  go_wp2_with fail
  refine (cB (w2.alloc (.cells #[.int .i64 0, .string ⟨#[]⟩, .int .i64 0, .int .i64 0, .int .i64 0, .int .i64 0, .int .i64 0, .int .i64 0, .int .i64 0, .int .i64 0, .int .i64 0] 24)) hka1.good).mono ?_
  rintro e w3 ⟨rfl, hb3⟩
  have hkc3 := hka1.step hb3
  have rA2 := block_below rA1 hb3 (lt_of_block rA1)
  have rAa3 := block_alloc rA2 (.cells #[.int .i64 y0, .int .i64 y1, .int .i64 y2, .int .i64 y3, .int .i64 y4, .int .i64 y5, .int .i64 y6, .int .i64 y7] 22)
  have rB3 := heap_alloc_new w3 (.cells #[.int .i64 y0, .int .i64 y1, .int .i64 y2, .int .i64 y3, .int .i64 y4, .int .i64 y5, .int .i64 y6, .int .i64 y7] 22)
  have hka3 := hkc3.alloc (.cells #[.int .i64 y0, .int .i64 y1, .int .i64 y2, .int .i64 y3, .int .i64 y4, .int .i64 y5, .int .i64 y6, .int .i64 y7] 22)
  obtain ⟨cA0, cA1, cA2, cA3, cA4, cA5, cA6, cA7, cA8, cA9, cA10⟩ := host_cells rAa3
  obtain ⟨cB0, cB1, cB2, cB3, cB4, cB5, cB6, cB7⟩ := eight_cells rB3
  go_wp2_with fail
  refine (cC (w3.alloc (.cells #[.int .i64 y0, .int .i64 y1, .int .i64 y2, .int .i64 y3, .int .i64 y4, .int .i64 y5, .int .i64 y6, .int .i64 y7] 22)) hka3.good).mono ?_
  rintro e w4 ⟨rfl, hb4⟩
  have hkc4 := hka3.step hb4
  clear cA0 cA1 cA2 cA3 cA4 cA5 cA6 cA7 cA8 cA9 cA10 cB0 cB1 cB2 cB3 cB4 cB5 cB6 cB7
  have rA4 := block_below rAa3 hb4 (lt_of_block rAa3)
  have rB5 := block_below rB3 hb4 (lt_of_block rB3)
  have rC6 := heap_alloc_new w4 (.cells #[.int .i64 2, .string hl, .int .i64 m, .int .i64 z0, .int .i64 z1, .int .i64 z2, .int .i64 z3, .int .i64 z4, .int .i64 z5, .int .i64 z6, .int .i64 z7] 24)
  have hka6 := hkc4.alloc (.cells #[.int .i64 2, .string hl, .int .i64 m, .int .i64 z0, .int .i64 z1, .int .i64 z2, .int .i64 z3, .int .i64 z4, .int .i64 z5, .int .i64 z6, .int .i64 z7] 24)
  obtain ⟨cC0, cC1, cC2, cC3, cC4, cC5, cC6, cC7, cC8, cC9, cC10⟩ := host_cells rC6
  go_wp2_with fail
  refine (cD (w4.alloc (.cells #[.int .i64 2, .string hl, .int .i64 m, .int .i64 z0, .int .i64 z1, .int .i64 z2, .int .i64 z3, .int .i64 z4, .int .i64 z5, .int .i64 z6, .int .i64 z7] 24)) hka6.good).mono ?_
  rintro e w5 ⟨rfl, hb5⟩
  have hkc5 := hka6.step hb5
  clear cC0 cC1 cC2 cC3 cC4 cC5 cC6 cC7 cC8 cC9 cC10
  have rC7 := block_below rC6 hb5 (lt_of_block rC6)
  obtain ⟨cC0, cC1, cC2, cC3, cC4, cC5, cC6, cC7, cC8, cC9, cC10⟩ := host_cells rC7
  go_wp2_with fail
  refine (cL w5 hkc5.good).mono ?_
  rintro e w6 ⟨rfl, hd6⟩
  have hkc6 := hkc5.step hd6.below
  clear cC0 cC1 cC2 cC3 cC4 cC5 cC6 cC7 cC8 cC9 cC10
  have rC8 := block_below rC7 hd6.below (lt_of_block rC7)
  obtain ⟨cC0, cC1, cC2, cC3, cC4, cC5, cC6, cC7, cC8, cC9, cC10⟩ := host_cells rC8
  go_wp2
  go_ret
  exact ⟨rfl, hkc6.below⟩

set_option maxHeartbeats 8000000 in
set_option maxRecDepth 100000 in
set_option linter.unusedVariables false in
theorem kinds_n_num_n_some (s : ByteArray) (hs : s.size ≤ 150) (y0 y1 y2 y3 y4 y5 y6 y7 : Int) (m : Int) (num : Bool) (w : World) (hG : Good w)
    (cA : ∀ w1, Good w1 → Calls Tryd.prog 10 #[.string ((⟨#[91]⟩ : ByteArray) ++ s ++ ⟨#[93]⟩)] w1 fun e w' => e = .returned (.tuple #[.agg #[.int .i64 0, .string ⟨#[]⟩, .int .i64 0, .int .i64 0, .int .i64 0, .int .i64 0, .int .i64 0, .int .i64 0, .int .i64 0, .int .i64 0, .int .i64 0], .bool false]) ∧ Below w1.heap.size w1 w')
    (cB : ∀ w1, Good w1 → Calls Tryd.prog 12 #[.string s] w1 fun e w' => e = .returned (.tuple #[.agg #[.int .i64 y0, .int .i64 y1, .int .i64 y2, .int .i64 y3, .int .i64 y4, .int .i64 y5, .int .i64 y6, .int .i64 y7], .bool false]) ∧ Below w1.heap.size w1 w')
    (cC : ∀ w1, Good w1 → Calls Tryd.prog 10 #[.string s] w1 fun e w' => e = .returned (.tuple #[.agg #[.int .i64 0, .string ⟨#[]⟩, .int .i64 0, .int .i64 0, .int .i64 0, .int .i64 0, .int .i64 0, .int .i64 0, .int .i64 0, .int .i64 0, .int .i64 0], .bool false]) ∧ Below w1.heap.size w1 w')
    (cD : ∀ w1, Good w1 → Calls Tryd.prog 13 #[.string s] w1 fun e w' => e = .returned (.tuple #[.int .i64 m, .bool false]) ∧ Below w1.heap.size w1 w')
    (cL : ∀ w1, Good w1 → Calls Tryd.prog 14 #[.string s] w1 fun e w' => e = .returned (.bool true) ∧ Drawn0 w1 w')
    (h0 : 0 < s.size) (c : UInt8) (hg : s[0]'h0 = c) (q : ((c.toNat : Int) == 91) = false) :
    Calls Tryd.prog 6 #[.string s] w fun e w' => e = .returned (.bool true) ∧ Below w.heap.size w w' := by
  have hd : decide ((150 : Int) < (s.size : Int)) = false := decide_eq_false (by omega)
  have hd0 : decide ((0 : Int) < (s.size : Int)) = true := decide_eq_true (by omega)
  have hk0 := Ok.refl hG
  go_enter Tryd.func6, Tryd.ntmps6
  go_wp2_with fail
  refine (awake7 w hk0.good).mono ?_
  rintro e w1 ⟨rfl, hb1⟩
  have hkc1 := hk0.step hb1
  go_wp2_with fail
  refine (cA w1 hkc1.good).mono ?_
  rintro e w2 ⟨rfl, hb2⟩
  have hkc2 := hkc1.step hb2
  have rA1 := heap_alloc_new w2 (.cells #[.int .i64 0, .string ⟨#[]⟩, .int .i64 0, .int .i64 0, .int .i64 0, .int .i64 0, .int .i64 0, .int .i64 0, .int .i64 0, .int .i64 0, .int .i64 0] 24)
  have hka1 := hkc2.alloc (.cells #[.int .i64 0, .string ⟨#[]⟩, .int .i64 0, .int .i64 0, .int .i64 0, .int .i64 0, .int .i64 0, .int .i64 0, .int .i64 0, .int .i64 0, .int .i64 0] 24)
  go_wp2_with fail
  refine (cB (w2.alloc (.cells #[.int .i64 0, .string ⟨#[]⟩, .int .i64 0, .int .i64 0, .int .i64 0, .int .i64 0, .int .i64 0, .int .i64 0, .int .i64 0, .int .i64 0, .int .i64 0] 24)) hka1.good).mono ?_
  rintro e w3 ⟨rfl, hb3⟩
  have hkc3 := hka1.step hb3
  have rA2 := block_below rA1 hb3 (lt_of_block rA1)
  have rAa3 := block_alloc rA2 (.cells #[.int .i64 y0, .int .i64 y1, .int .i64 y2, .int .i64 y3, .int .i64 y4, .int .i64 y5, .int .i64 y6, .int .i64 y7] 22)
  have rB3 := heap_alloc_new w3 (.cells #[.int .i64 y0, .int .i64 y1, .int .i64 y2, .int .i64 y3, .int .i64 y4, .int .i64 y5, .int .i64 y6, .int .i64 y7] 22)
  have hka3 := hkc3.alloc (.cells #[.int .i64 y0, .int .i64 y1, .int .i64 y2, .int .i64 y3, .int .i64 y4, .int .i64 y5, .int .i64 y6, .int .i64 y7] 22)
  obtain ⟨cA0, cA1, cA2, cA3, cA4, cA5, cA6, cA7, cA8, cA9, cA10⟩ := host_cells rAa3
  obtain ⟨cB0, cB1, cB2, cB3, cB4, cB5, cB6, cB7⟩ := eight_cells rB3
  go_wp2_with fail
  refine (cC (w3.alloc (.cells #[.int .i64 y0, .int .i64 y1, .int .i64 y2, .int .i64 y3, .int .i64 y4, .int .i64 y5, .int .i64 y6, .int .i64 y7] 22)) hka3.good).mono ?_
  rintro e w4 ⟨rfl, hb4⟩
  have hkc4 := hka3.step hb4
  clear cA0 cA1 cA2 cA3 cA4 cA5 cA6 cA7 cA8 cA9 cA10 cB0 cB1 cB2 cB3 cB4 cB5 cB6 cB7
  have rA4 := block_below rAa3 hb4 (lt_of_block rAa3)
  have rB5 := block_below rB3 hb4 (lt_of_block rB3)
  have rC6 := heap_alloc_new w4 (.cells #[.int .i64 0, .string ⟨#[]⟩, .int .i64 0, .int .i64 0, .int .i64 0, .int .i64 0, .int .i64 0, .int .i64 0, .int .i64 0, .int .i64 0, .int .i64 0] 24)
  have hka6 := hkc4.alloc (.cells #[.int .i64 0, .string ⟨#[]⟩, .int .i64 0, .int .i64 0, .int .i64 0, .int .i64 0, .int .i64 0, .int .i64 0, .int .i64 0, .int .i64 0, .int .i64 0] 24)
  obtain ⟨cC0, cC1, cC2, cC3, cC4, cC5, cC6, cC7, cC8, cC9, cC10⟩ := host_cells rC6
  go_wp2_with fail
  refine (cD (w4.alloc (.cells #[.int .i64 0, .string ⟨#[]⟩, .int .i64 0, .int .i64 0, .int .i64 0, .int .i64 0, .int .i64 0, .int .i64 0, .int .i64 0, .int .i64 0, .int .i64 0] 24)) hka6.good).mono ?_
  rintro e w5 ⟨rfl, hb5⟩
  have hkc5 := hka6.step hb5
  clear cC0 cC1 cC2 cC3 cC4 cC5 cC6 cC7 cC8 cC9 cC10
  have rC7 := block_below rC6 hb5 (lt_of_block rC6)
  obtain ⟨cC0, cC1, cC2, cC3, cC4, cC5, cC6, cC7, cC8, cC9, cC10⟩ := host_cells rC7
  go_wp2_with fail
  refine (cL w5 hkc5.good).mono ?_
  rintro e w6 ⟨rfl, hd6⟩
  have hkc6 := hkc5.step hd6.below
  clear cC0 cC1 cC2 cC3 cC4 cC5 cC6 cC7 cC8 cC9 cC10
  have rC8 := block_below rC7 hd6.below (lt_of_block rC7)
  obtain ⟨cC0, cC1, cC2, cC3, cC4, cC5, cC6, cC7, cC8, cC9, cC10⟩ := host_cells rC8
  go_wp2
  go_ret
  exact ⟨rfl, hkc6.below⟩

set_option maxHeartbeats 8000000 in
set_option maxRecDepth 100000 in
set_option linter.unusedVariables false in
theorem kinds_n_dom_y_some (s : ByteArray) (hs : s.size ≤ 150) (y0 y1 y2 y3 y4 y5 y6 y7 : Int) (hl : ByteArray) (hn z0 z1 z2 z3 z4 z5 z6 z7 : Int) (m : Int) (num : Bool) (w : World) (hG : Good w)
    (cA : ∀ w1, Good w1 → Calls Tryd.prog 10 #[.string ((⟨#[91]⟩ : ByteArray) ++ s ++ ⟨#[93]⟩)] w1 fun e w' => e = .returned (.tuple #[.agg #[.int .i64 0, .string ⟨#[]⟩, .int .i64 0, .int .i64 0, .int .i64 0, .int .i64 0, .int .i64 0, .int .i64 0, .int .i64 0, .int .i64 0, .int .i64 0], .bool false]) ∧ Below w1.heap.size w1 w')
    (cB : ∀ w1, Good w1 → Calls Tryd.prog 12 #[.string s] w1 fun e w' => e = .returned (.tuple #[.agg #[.int .i64 y0, .int .i64 y1, .int .i64 y2, .int .i64 y3, .int .i64 y4, .int .i64 y5, .int .i64 y6, .int .i64 y7], .bool false]) ∧ Below w1.heap.size w1 w')
    (cC : ∀ w1, Good w1 → Calls Tryd.prog 10 #[.string s] w1 fun e w' => e = .returned (.tuple #[.agg #[.int .i64 1, .string hl, .int .i64 hn, .int .i64 z0, .int .i64 z1, .int .i64 z2, .int .i64 z3, .int .i64 z4, .int .i64 z5, .int .i64 z6, .int .i64 z7], .bool true]) ∧ Below w1.heap.size w1 w')
    (cD : ∀ w1, Good w1 → Calls Tryd.prog 13 #[.string s] w1 fun e w' => e = .returned (.tuple #[.int .i64 m, .bool num]) ∧ Below w1.heap.size w1 w')
    (cL : ∀ w1, Good w1 → Calls Tryd.prog 14 #[.string s] w1 fun e w' => e = .returned (.bool false) ∧ Drawn0 w1 w')
    (h0 : 0 < s.size) (c : UInt8) (hg : s[0]'h0 = c) (q : ((c.toNat : Int) == 91) = false) :
    Calls Tryd.prog 6 #[.string s] w fun e w' => e = .returned (.bool true) ∧ Below w.heap.size w w' := by
  have hd : decide ((150 : Int) < (s.size : Int)) = false := decide_eq_false (by omega)
  have hd0 : decide ((0 : Int) < (s.size : Int)) = true := decide_eq_true (by omega)
  have hk0 := Ok.refl hG
  go_enter Tryd.func6, Tryd.ntmps6
  go_wp2_with fail
  refine (awake7 w hk0.good).mono ?_
  rintro e w1 ⟨rfl, hb1⟩
  have hkc1 := hk0.step hb1
  go_wp2_with fail
  refine (cA w1 hkc1.good).mono ?_
  rintro e w2 ⟨rfl, hb2⟩
  have hkc2 := hkc1.step hb2
  have rA1 := heap_alloc_new w2 (.cells #[.int .i64 0, .string ⟨#[]⟩, .int .i64 0, .int .i64 0, .int .i64 0, .int .i64 0, .int .i64 0, .int .i64 0, .int .i64 0, .int .i64 0, .int .i64 0] 24)
  have hka1 := hkc2.alloc (.cells #[.int .i64 0, .string ⟨#[]⟩, .int .i64 0, .int .i64 0, .int .i64 0, .int .i64 0, .int .i64 0, .int .i64 0, .int .i64 0, .int .i64 0, .int .i64 0] 24)
  go_wp2_with fail
  refine (cB (w2.alloc (.cells #[.int .i64 0, .string ⟨#[]⟩, .int .i64 0, .int .i64 0, .int .i64 0, .int .i64 0, .int .i64 0, .int .i64 0, .int .i64 0, .int .i64 0, .int .i64 0] 24)) hka1.good).mono ?_
  rintro e w3 ⟨rfl, hb3⟩
  have hkc3 := hka1.step hb3
  have rA2 := block_below rA1 hb3 (lt_of_block rA1)
  have rAa3 := block_alloc rA2 (.cells #[.int .i64 y0, .int .i64 y1, .int .i64 y2, .int .i64 y3, .int .i64 y4, .int .i64 y5, .int .i64 y6, .int .i64 y7] 22)
  have rB3 := heap_alloc_new w3 (.cells #[.int .i64 y0, .int .i64 y1, .int .i64 y2, .int .i64 y3, .int .i64 y4, .int .i64 y5, .int .i64 y6, .int .i64 y7] 22)
  have hka3 := hkc3.alloc (.cells #[.int .i64 y0, .int .i64 y1, .int .i64 y2, .int .i64 y3, .int .i64 y4, .int .i64 y5, .int .i64 y6, .int .i64 y7] 22)
  obtain ⟨cA0, cA1, cA2, cA3, cA4, cA5, cA6, cA7, cA8, cA9, cA10⟩ := host_cells rAa3
  obtain ⟨cB0, cB1, cB2, cB3, cB4, cB5, cB6, cB7⟩ := eight_cells rB3
  go_wp2_with fail
  refine (cC (w3.alloc (.cells #[.int .i64 y0, .int .i64 y1, .int .i64 y2, .int .i64 y3, .int .i64 y4, .int .i64 y5, .int .i64 y6, .int .i64 y7] 22)) hka3.good).mono ?_
  rintro e w4 ⟨rfl, hb4⟩
  have hkc4 := hka3.step hb4
  clear cA0 cA1 cA2 cA3 cA4 cA5 cA6 cA7 cA8 cA9 cA10 cB0 cB1 cB2 cB3 cB4 cB5 cB6 cB7
  have rA4 := block_below rAa3 hb4 (lt_of_block rAa3)
  have rB5 := block_below rB3 hb4 (lt_of_block rB3)
  have rC6 := heap_alloc_new w4 (.cells #[.int .i64 1, .string hl, .int .i64 hn, .int .i64 z0, .int .i64 z1, .int .i64 z2, .int .i64 z3, .int .i64 z4, .int .i64 z5, .int .i64 z6, .int .i64 z7] 24)
  have hka6 := hkc4.alloc (.cells #[.int .i64 1, .string hl, .int .i64 hn, .int .i64 z0, .int .i64 z1, .int .i64 z2, .int .i64 z3, .int .i64 z4, .int .i64 z5, .int .i64 z6, .int .i64 z7] 24)
  obtain ⟨cC0, cC1, cC2, cC3, cC4, cC5, cC6, cC7, cC8, cC9, cC10⟩ := host_cells rC6
  go_wp2_with fail
  refine (cD (w4.alloc (.cells #[.int .i64 1, .string hl, .int .i64 hn, .int .i64 z0, .int .i64 z1, .int .i64 z2, .int .i64 z3, .int .i64 z4, .int .i64 z5, .int .i64 z6, .int .i64 z7] 24)) hka6.good).mono ?_
  rintro e w5 ⟨rfl, hb5⟩
  have hkc5 := hka6.step hb5
  clear cC0 cC1 cC2 cC3 cC4 cC5 cC6 cC7 cC8 cC9 cC10
  have rC7 := block_below rC6 hb5 (lt_of_block rC6)
  obtain ⟨cC0, cC1, cC2, cC3, cC4, cC5, cC6, cC7, cC8, cC9, cC10⟩ := host_cells rC7
  go_wp2_with fail
  refine (cL w5 hkc5.good).mono ?_
  rintro e w6 ⟨rfl, hd6⟩
  have hkc6 := hkc5.step hd6.below
  clear cC0 cC1 cC2 cC3 cC4 cC5 cC6 cC7 cC8 cC9 cC10
  have rC8 := block_below rC7 hd6.below (lt_of_block rC7)
  obtain ⟨cC0, cC1, cC2, cC3, cC4, cC5, cC6, cC7, cC8, cC9, cC10⟩ := host_cells rC8
  go_wp2
  go_ret
  exact ⟨rfl, hkc6.below⟩

set_option maxHeartbeats 8000000 in
set_option maxRecDepth 100000 in
set_option linter.unusedVariables false in
theorem kinds_n_dom_n_some (s : ByteArray) (hs : s.size ≤ 150) (y0 y1 y2 y3 y4 y5 y6 y7 : Int) (m : Int) (num : Bool) (w : World) (hG : Good w)
    (cA : ∀ w1, Good w1 → Calls Tryd.prog 10 #[.string ((⟨#[91]⟩ : ByteArray) ++ s ++ ⟨#[93]⟩)] w1 fun e w' => e = .returned (.tuple #[.agg #[.int .i64 0, .string ⟨#[]⟩, .int .i64 0, .int .i64 0, .int .i64 0, .int .i64 0, .int .i64 0, .int .i64 0, .int .i64 0, .int .i64 0, .int .i64 0], .bool false]) ∧ Below w1.heap.size w1 w')
    (cB : ∀ w1, Good w1 → Calls Tryd.prog 12 #[.string s] w1 fun e w' => e = .returned (.tuple #[.agg #[.int .i64 y0, .int .i64 y1, .int .i64 y2, .int .i64 y3, .int .i64 y4, .int .i64 y5, .int .i64 y6, .int .i64 y7], .bool false]) ∧ Below w1.heap.size w1 w')
    (cC : ∀ w1, Good w1 → Calls Tryd.prog 10 #[.string s] w1 fun e w' => e = .returned (.tuple #[.agg #[.int .i64 0, .string ⟨#[]⟩, .int .i64 0, .int .i64 0, .int .i64 0, .int .i64 0, .int .i64 0, .int .i64 0, .int .i64 0, .int .i64 0, .int .i64 0], .bool false]) ∧ Below w1.heap.size w1 w')
    (cD : ∀ w1, Good w1 → Calls Tryd.prog 13 #[.string s] w1 fun e w' => e = .returned (.tuple #[.int .i64 m, .bool num]) ∧ Below w1.heap.size w1 w')
    (cL : ∀ w1, Good w1 → Calls Tryd.prog 14 #[.string s] w1 fun e w' => e = .returned (.bool false) ∧ Drawn0 w1 w')
    (h0 : 0 < s.size) (c : UInt8) (hg : s[0]'h0 = c) (q : ((c.toNat : Int) == 91) = false) :
    Calls Tryd.prog 6 #[.string s] w fun e w' => e = .returned (.bool true) ∧ Below w.heap.size w w' := by
  have hd : decide ((150 : Int) < (s.size : Int)) = false := decide_eq_false (by omega)
  have hd0 : decide ((0 : Int) < (s.size : Int)) = true := decide_eq_true (by omega)
  have hk0 := Ok.refl hG
  go_enter Tryd.func6, Tryd.ntmps6
  go_wp2_with fail
  refine (awake7 w hk0.good).mono ?_
  rintro e w1 ⟨rfl, hb1⟩
  have hkc1 := hk0.step hb1
  go_wp2_with fail
  refine (cA w1 hkc1.good).mono ?_
  rintro e w2 ⟨rfl, hb2⟩
  have hkc2 := hkc1.step hb2
  have rA1 := heap_alloc_new w2 (.cells #[.int .i64 0, .string ⟨#[]⟩, .int .i64 0, .int .i64 0, .int .i64 0, .int .i64 0, .int .i64 0, .int .i64 0, .int .i64 0, .int .i64 0, .int .i64 0] 24)
  have hka1 := hkc2.alloc (.cells #[.int .i64 0, .string ⟨#[]⟩, .int .i64 0, .int .i64 0, .int .i64 0, .int .i64 0, .int .i64 0, .int .i64 0, .int .i64 0, .int .i64 0, .int .i64 0] 24)
  go_wp2_with fail
  refine (cB (w2.alloc (.cells #[.int .i64 0, .string ⟨#[]⟩, .int .i64 0, .int .i64 0, .int .i64 0, .int .i64 0, .int .i64 0, .int .i64 0, .int .i64 0, .int .i64 0, .int .i64 0] 24)) hka1.good).mono ?_
  rintro e w3 ⟨rfl, hb3⟩
  have hkc3 := hka1.step hb3
  have rA2 := block_below rA1 hb3 (lt_of_block rA1)
  have rAa3 := block_alloc rA2 (.cells #[.int .i64 y0, .int .i64 y1, .int .i64 y2, .int .i64 y3, .int .i64 y4, .int .i64 y5, .int .i64 y6, .int .i64 y7] 22)
  have rB3 := heap_alloc_new w3 (.cells #[.int .i64 y0, .int .i64 y1, .int .i64 y2, .int .i64 y3, .int .i64 y4, .int .i64 y5, .int .i64 y6, .int .i64 y7] 22)
  have hka3 := hkc3.alloc (.cells #[.int .i64 y0, .int .i64 y1, .int .i64 y2, .int .i64 y3, .int .i64 y4, .int .i64 y5, .int .i64 y6, .int .i64 y7] 22)
  obtain ⟨cA0, cA1, cA2, cA3, cA4, cA5, cA6, cA7, cA8, cA9, cA10⟩ := host_cells rAa3
  obtain ⟨cB0, cB1, cB2, cB3, cB4, cB5, cB6, cB7⟩ := eight_cells rB3
  go_wp2_with fail
  refine (cC (w3.alloc (.cells #[.int .i64 y0, .int .i64 y1, .int .i64 y2, .int .i64 y3, .int .i64 y4, .int .i64 y5, .int .i64 y6, .int .i64 y7] 22)) hka3.good).mono ?_
  rintro e w4 ⟨rfl, hb4⟩
  have hkc4 := hka3.step hb4
  clear cA0 cA1 cA2 cA3 cA4 cA5 cA6 cA7 cA8 cA9 cA10 cB0 cB1 cB2 cB3 cB4 cB5 cB6 cB7
  have rA4 := block_below rAa3 hb4 (lt_of_block rAa3)
  have rB5 := block_below rB3 hb4 (lt_of_block rB3)
  have rC6 := heap_alloc_new w4 (.cells #[.int .i64 0, .string ⟨#[]⟩, .int .i64 0, .int .i64 0, .int .i64 0, .int .i64 0, .int .i64 0, .int .i64 0, .int .i64 0, .int .i64 0, .int .i64 0] 24)
  have hka6 := hkc4.alloc (.cells #[.int .i64 0, .string ⟨#[]⟩, .int .i64 0, .int .i64 0, .int .i64 0, .int .i64 0, .int .i64 0, .int .i64 0, .int .i64 0, .int .i64 0, .int .i64 0] 24)
  obtain ⟨cC0, cC1, cC2, cC3, cC4, cC5, cC6, cC7, cC8, cC9, cC10⟩ := host_cells rC6
  go_wp2_with fail
  refine (cD (w4.alloc (.cells #[.int .i64 0, .string ⟨#[]⟩, .int .i64 0, .int .i64 0, .int .i64 0, .int .i64 0, .int .i64 0, .int .i64 0, .int .i64 0, .int .i64 0, .int .i64 0] 24)) hka6.good).mono ?_
  rintro e w5 ⟨rfl, hb5⟩
  have hkc5 := hka6.step hb5
  clear cC0 cC1 cC2 cC3 cC4 cC5 cC6 cC7 cC8 cC9 cC10
  have rC7 := block_below rC6 hb5 (lt_of_block rC6)
  obtain ⟨cC0, cC1, cC2, cC3, cC4, cC5, cC6, cC7, cC8, cC9, cC10⟩ := host_cells rC7
  go_wp2_with fail
  refine (cL w5 hkc5.good).mono ?_
  rintro e w6 ⟨rfl, hd6⟩
  have hkc6 := hkc5.step hd6.below
  clear cC0 cC1 cC2 cC3 cC4 cC5 cC6 cC7 cC8 cC9 cC10
  have rC8 := block_below rC7 hd6.below (lt_of_block rC7)
  obtain ⟨cC0, cC1, cC2, cC3, cC4, cC5, cC6, cC7, cC8, cC9, cC10⟩ := host_cells rC8
  go_wp2
  go_ret
  exact ⟨rfl, hkc6.below⟩

set_option maxHeartbeats 8000000 in
set_option maxRecDepth 100000 in
set_option linter.unusedVariables false in
theorem kinds_n_dom_n_none (s : ByteArray) (hs : s.size ≤ 150) (y0 y1 y2 y3 y4 y5 y6 y7 : Int) (m : Int) (num : Bool) (w : World) (hG : Good w)
    (cA : ∀ w1, Good w1 → Calls Tryd.prog 10 #[.string ((⟨#[91]⟩ : ByteArray) ++ s ++ ⟨#[93]⟩)] w1 fun e w' => e = .returned (.tuple #[.agg #[.int .i64 0, .string ⟨#[]⟩, .int .i64 0, .int .i64 0, .int .i64 0, .int .i64 0, .int .i64 0, .int .i64 0, .int .i64 0, .int .i64 0, .int .i64 0], .bool false]) ∧ Below w1.heap.size w1 w')
    (cB : ∀ w1, Good w1 → Calls Tryd.prog 12 #[.string s] w1 fun e w' => e = .returned (.tuple #[.agg #[.int .i64 y0, .int .i64 y1, .int .i64 y2, .int .i64 y3, .int .i64 y4, .int .i64 y5, .int .i64 y6, .int .i64 y7], .bool false]) ∧ Below w1.heap.size w1 w')
    (cC : ∀ w1, Good w1 → Calls Tryd.prog 10 #[.string s] w1 fun e w' => e = .returned (.tuple #[.agg #[.int .i64 0, .string ⟨#[]⟩, .int .i64 0, .int .i64 0, .int .i64 0, .int .i64 0, .int .i64 0, .int .i64 0, .int .i64 0, .int .i64 0, .int .i64 0], .bool false]) ∧ Below w1.heap.size w1 w')
    (cD : ∀ w1, Good w1 → Calls Tryd.prog 13 #[.string s] w1 fun e w' => e = .returned (.tuple #[.int .i64 m, .bool num]) ∧ Below w1.heap.size w1 w')
    (cL : ∀ w1, Good w1 → Calls Tryd.prog 14 #[.string s] w1 fun e w' => e = .returned (.bool false) ∧ Drawn0 w1 w')
    (h0 : s.size = 0) :
    Calls Tryd.prog 6 #[.string s] w fun e w' => e = .returned (.bool true) ∧ Below w.heap.size w w' := by
  have hd : decide ((150 : Int) < (s.size : Int)) = false := decide_eq_false (by omega)
  have hd0 : decide ((0 : Int) < (s.size : Int)) = false := decide_eq_false (by omega)
  have hk0 := Ok.refl hG
  go_enter Tryd.func6, Tryd.ntmps6
  go_wp2_with fail
  refine (awake7 w hk0.good).mono ?_
  rintro e w1 ⟨rfl, hb1⟩
  have hkc1 := hk0.step hb1
  go_wp2_with fail
  refine (cA w1 hkc1.good).mono ?_
  rintro e w2 ⟨rfl, hb2⟩
  have hkc2 := hkc1.step hb2
  have rA1 := heap_alloc_new w2 (.cells #[.int .i64 0, .string ⟨#[]⟩, .int .i64 0, .int .i64 0, .int .i64 0, .int .i64 0, .int .i64 0, .int .i64 0, .int .i64 0, .int .i64 0, .int .i64 0] 24)
  have hka1 := hkc2.alloc (.cells #[.int .i64 0, .string ⟨#[]⟩, .int .i64 0, .int .i64 0, .int .i64 0, .int .i64 0, .int .i64 0, .int .i64 0, .int .i64 0, .int .i64 0, .int .i64 0] 24)
  go_wp2_with fail
  refine (cB (w2.alloc (.cells #[.int .i64 0, .string ⟨#[]⟩, .int .i64 0, .int .i64 0, .int .i64 0, .int .i64 0, .int .i64 0, .int .i64 0, .int .i64 0, .int .i64 0, .int .i64 0] 24)) hka1.good).mono ?_
  rintro e w3 ⟨rfl, hb3⟩
  have hkc3 := hka1.step hb3
  have rA2 := block_below rA1 hb3 (lt_of_block rA1)
  have rAa3 := block_alloc rA2 (.cells #[.int .i64 y0, .int .i64 y1, .int .i64 y2, .int .i64 y3, .int .i64 y4, .int .i64 y5, .int .i64 y6, .int .i64 y7] 22)
  have rB3 := heap_alloc_new w3 (.cells #[.int .i64 y0, .int .i64 y1, .int .i64 y2, .int .i64 y3, .int .i64 y4, .int .i64 y5, .int .i64 y6, .int .i64 y7] 22)
  have hka3 := hkc3.alloc (.cells #[.int .i64 y0, .int .i64 y1, .int .i64 y2, .int .i64 y3, .int .i64 y4, .int .i64 y5, .int .i64 y6, .int .i64 y7] 22)
  obtain ⟨cA0, cA1, cA2, cA3, cA4, cA5, cA6, cA7, cA8, cA9, cA10⟩ := host_cells rAa3
  obtain ⟨cB0, cB1, cB2, cB3, cB4, cB5, cB6, cB7⟩ := eight_cells rB3
  go_wp2_with fail
  refine (cC (w3.alloc (.cells #[.int .i64 y0, .int .i64 y1, .int .i64 y2, .int .i64 y3, .int .i64 y4, .int .i64 y5, .int .i64 y6, .int .i64 y7] 22)) hka3.good).mono ?_
  rintro e w4 ⟨rfl, hb4⟩
  have hkc4 := hka3.step hb4
  clear cA0 cA1 cA2 cA3 cA4 cA5 cA6 cA7 cA8 cA9 cA10 cB0 cB1 cB2 cB3 cB4 cB5 cB6 cB7
  have rA4 := block_below rAa3 hb4 (lt_of_block rAa3)
  have rB5 := block_below rB3 hb4 (lt_of_block rB3)
  have rC6 := heap_alloc_new w4 (.cells #[.int .i64 0, .string ⟨#[]⟩, .int .i64 0, .int .i64 0, .int .i64 0, .int .i64 0, .int .i64 0, .int .i64 0, .int .i64 0, .int .i64 0, .int .i64 0] 24)
  have hka6 := hkc4.alloc (.cells #[.int .i64 0, .string ⟨#[]⟩, .int .i64 0, .int .i64 0, .int .i64 0, .int .i64 0, .int .i64 0, .int .i64 0, .int .i64 0, .int .i64 0, .int .i64 0] 24)
  obtain ⟨cC0, cC1, cC2, cC3, cC4, cC5, cC6, cC7, cC8, cC9, cC10⟩ := host_cells rC6
  go_wp2_with fail
  refine (cD (w4.alloc (.cells #[.int .i64 0, .string ⟨#[]⟩, .int .i64 0, .int .i64 0, .int .i64 0, .int .i64 0, .int .i64 0, .int .i64 0, .int .i64 0, .int .i64 0, .int .i64 0] 24)) hka6.good).mono ?_
  rintro e w5 ⟨rfl, hb5⟩
  have hkc5 := hka6.step hb5
  clear cC0 cC1 cC2 cC3 cC4 cC5 cC6 cC7 cC8 cC9 cC10
  have rC7 := block_below rC6 hb5 (lt_of_block rC6)
  obtain ⟨cC0, cC1, cC2, cC3, cC4, cC5, cC6, cC7, cC8, cC9, cC10⟩ := host_cells rC7
  go_wp2_with fail
  refine (cL w5 hkc5.good).mono ?_
  rintro e w6 ⟨rfl, hd6⟩
  have hkc6 := hkc5.step hd6.below
  clear cC0 cC1 cC2 cC3 cC4 cC5 cC6 cC7 cC8 cC9 cC10
  have rC8 := block_below rC7 hd6.below (lt_of_block rC7)
  obtain ⟨cC0, cC1, cC2, cC3, cC4, cC5, cC6, cC7, cC8, cC9, cC10⟩ := host_cells rC8
  go_wp2
  go_ret
  exact ⟨rfl, hkc6.below⟩

theorem law_HostKinds (s : ByteArray) (_hs : s.size ≤ 140737488351232) (w : World) (hG : Good w) :
    Calls Tryd.prog 6 #[.string s] w fun e w' => e = .returned (.bool true) ∧ Below w.heap.size w w' := by
  by_cases hl : s.size ≤ 150
  · have e : ((⟨#[91]⟩ : ByteArray) ++ s ++ ⟨#[93]⟩).data.toList = 91 :: s.data.toList ++ [93] := by simp [ByteArray.data_append]
    have cA := fun w1 (hG : Good w1) => host_Parse_any ((⟨#[91]⟩ : ByteArray) ++ s ++ ⟨#[93]⟩) (by simp [ByteArray.size_append]; show 1 + s.size + 1 ≤ _; omega) w1 hG
    have cB := fun w1 (hG : Good w1) => six_Parse_any s (by omega) w1 hG
    have cC := fun w1 (hG : Good w1) => host_Parse_any s (by omega) w1 hG
    have cD := fun w1 (hG : Good w1) => four_Parse_any s (by omega) w1 hG
    have cL := fun w1 (hG : Good w1) => four_Looks_any s (by omega) w1 hG
    simp only [e, parse_in] at cA
    obtain ⟨y0, y1, y2, y3, y4, y5, y6, y7, ha⟩ := list8 (casts (parseSix s.data.toList).1) (by rw [casts_length, parseSix_len])
    simp only [ha] at cA cB
    have hsz := size_list s
    generalize hL : s.data.toList = l at *
    by_cases hp : ∃ t, l = 91 :: t
    · obtain ⟨t, ht⟩ := hp
      have h0 : 0 < s.size := by rw [hsz, ht]; simp
      have hg : s[0]'h0 = 91 := get_cons (l := t) (by rw [hL, ht]; rfl) _
      have hpre := parse_pre ⟨t, ht⟩
      cases hcan : (parseSix l).2 with
      | true =>
        simp only [hcan, if_true] at cA cB
        rcases hpre with hz | ⟨q, hq, hz⟩
        · simp only [hz] at cC
          exact kinds_y_pre_n_some s hl y0 y1 y2 y3 y4 y5 y6 y7 0 true w hG cA cB cC h0 91 hg rfl
        · obtain ⟨z0, z1, z2, z3, z4, z5, z6, z7, rfl⟩ := list8 q hq
          simp only [hz] at cC
          exact kinds_y_pre_y_some s hl y0 y1 y2 y3 y4 y5 y6 y7 _ _ z0 z1 z2 z3 z4 z5 z6 z7 0 true w hG cA cB cC h0 91 hg rfl
      | false =>
        simp only [hcan, Bool.false_eq_true, if_false] at cA cB
        rcases hpre with hz | ⟨q, hq, hz⟩
        · simp only [hz] at cC
          exact kinds_n_pre_n_some s hl y0 y1 y2 y3 y4 y5 y6 y7 0 true w hG cA cB cC h0 91 hg rfl
        · obtain ⟨z0, z1, z2, z3, z4, z5, z6, z7, rfl⟩ := list8 q hq
          simp only [hz] at cC
          exact kinds_n_pre_y_some s hl y0 y1 y2 y3 y4 y5 y6 y7 _ _ z0 z1 z2 z3 z4 z5 z6 z7 0 true w hG cA cB cC h0 91 hg rfl
    · have hhead : l ≠ [] → ∃ c : UInt8, ∃ h0 : 0 < s.size, s[0]'h0 = c ∧ ((c.toNat : Int) == 91) = false := fun hne => by
        obtain ⟨c, t, rfl⟩ : ∃ c t, l = c :: t := by
          cases l with
          | nil => exact absurd rfl hne
          | cons c t => exact ⟨c, t, rfl⟩
        refine ⟨c, by rw [hsz]; simp, get_cons (l := t) (by rw [hL]; rfl) _, ?_⟩
        rw [beq_eq_false_iff_ne]
        intro h
        exact hp ⟨t, by rw [UInt8.toNat_inj.1 (show c.toNat = (91 : UInt8).toNat from by have : (91 : UInt8).toNat = 91 := rfl; omega)]⟩
      cases hk : looksB l with
      | true =>
        have hne : l ≠ [] := fun h => by rw [h, looks_nil] at hk; exact Bool.noConfusion hk
        obtain ⟨c, h0, hg, hq⟩ := hhead hne
        have hz := parse_num hp hk
        simp only [hk] at cL
        cases hnum : (parseFour l).2 with
        | true =>
          rw [hnum, if_pos rfl] at hz
          simp only [hz, hnum] at cC cD
          cases hcan : (parseSix l).2 with
          | true =>
            simp only [hcan, if_true] at cA cB
            exact kinds_y_num_y_some s hl y0 y1 y2 y3 y4 y5 y6 y7 _ 0 0 0 0 0 0 0 0 0 _ true w hG cA cB cC cD cL h0 c hg hq
          | false =>
            simp only [hcan, Bool.false_eq_true, if_false] at cA cB
            exact kinds_n_num_y_some s hl y0 y1 y2 y3 y4 y5 y6 y7 _ 0 0 0 0 0 0 0 0 0 _ true w hG cA cB cC cD cL h0 c hg hq
        | false =>
          rw [hnum, if_neg (by decide)] at hz
          simp only [hz, hnum] at cC cD
          cases hcan : (parseSix l).2 with
          | true =>
            simp only [hcan, if_true] at cA cB
            exact kinds_y_num_n_some s hl y0 y1 y2 y3 y4 y5 y6 y7 _ true w hG cA cB cC cD cL h0 c hg hq
          | false =>
            simp only [hcan, Bool.false_eq_true, if_false] at cA cB
            exact kinds_n_num_n_some s hl y0 y1 y2 y3 y4 y5 y6 y7 _ true w hG cA cB cC cD cL h0 c hg hq
      | false =>
        have hz := parse_dom hp hk
        simp only [hk] at cL
        cases hok : okHost (lowL l) with
        | true =>
          have hne : l ≠ [] := fun h => by rw [h, okHost_nil] at hok; exact Bool.noConfusion hok
          obtain ⟨c, h0, hg, hq⟩ := hhead hne
          rw [hok, if_pos rfl] at hz
          simp only [hz] at cC
          cases hcan : (parseSix l).2 with
          | true =>
            simp only [hcan, if_true] at cA cB
            exact kinds_y_dom_y_some s hl y0 y1 y2 y3 y4 y5 y6 y7 _ 0 0 0 0 0 0 0 0 0 _ _ w hG cA cB cC cD cL h0 c hg hq
          | false =>
            simp only [hcan, Bool.false_eq_true, if_false] at cA cB
            exact kinds_n_dom_y_some s hl y0 y1 y2 y3 y4 y5 y6 y7 _ 0 0 0 0 0 0 0 0 0 _ _ w hG cA cB cC cD cL h0 c hg hq
        | false =>
          rw [hok, if_neg (by decide)] at hz
          simp only [hz] at cC
          by_cases hne : l = []
          · have h0 : s.size = 0 := by rw [hsz, hne]; rfl
            cases hcan : (parseSix l).2 with
            | true =>
              simp only [hcan, if_true] at cA cB
              exact kinds_y_dom_n_none s hl y0 y1 y2 y3 y4 y5 y6 y7 _ _ w hG cA cB cC cD cL h0
            | false =>
              simp only [hcan, Bool.false_eq_true, if_false] at cA cB
              exact kinds_n_dom_n_none s hl y0 y1 y2 y3 y4 y5 y6 y7 _ _ w hG cA cB cC cD cL h0
          · obtain ⟨c, h0, hg, hq⟩ := hhead hne
            cases hcan : (parseSix l).2 with
            | true =>
              simp only [hcan, if_true] at cA cB
              exact kinds_y_dom_n_some s hl y0 y1 y2 y3 y4 y5 y6 y7 _ _ w hG cA cB cC cD cL h0 c hg hq
            | false =>
              simp only [hcan, Bool.false_eq_true, if_false] at cA cB
              exact kinds_n_dom_n_some s hl y0 y1 y2 y3 y4 y5 y6 y7 _ _ w hG cA cB cC cD cL h0 c hg hq
  · have hd : decide ((150 : Int) < (s.size : Int)) = true := decide_eq_true (by omega)
    have hk0 := Ok.refl hG
    go_enter Tryd.func6, Tryd.ntmps6
    go_wp2_with fail
    refine (awake7 w hG).mono ?_
    rintro e w1 ⟨rfl, hb1⟩
    go_wp2
    go_ret
    exact ⟨rfl, hb1⟩

end Go.Proofs.YtcpjonglfnakpaaDoor
