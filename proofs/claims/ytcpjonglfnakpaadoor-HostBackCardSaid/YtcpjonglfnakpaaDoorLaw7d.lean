/- The law HostBack, walked over the contracts. -/
import Derived.Test.YtcpjonglfnakpaaDoorLaw7
import Derived.Test.YtcpjonglfnakpaaDoorHostB
import Derived.Test.YtcpjonglfnakpaaDoorCardH
namespace Go.Proofs.YtcpjonglfnakpaaDoor
open Go.RowKit Go.Proofs.YtcpjonglfnakpaaDoorW.PrintWords

set_option maxHeartbeats 8000000 in
set_option maxRecDepth 100000 in
theorem back_y_y (s : ByteArray) (k : Int) (hl : ByteArray) (hn z0 z1 z2 z3 z4 z5 z6 z7 : Int) (hs : s.size ≤ 300) (hhl : hl.size ≤ 300) (T : ByteArray) (hT : T.toList.isEmpty = false) (k2 : Int) (hl2 : ByteArray) (hn2 v0 v1 v2 v3 v4 v5 v6 v7 : Int) (U : ByteArray) (w : World) (hG : Good w)
    (cH : ∀ w1, Good w1 → Calls Tryd.prog 9 #[.agg #[.int .i64 k, .string hl, .int .i64 hn, .int .i64 z0, .int .i64 z1, .int .i64 z2, .int .i64 z3, .int .i64 z4, .int .i64 z5, .int .i64 z6, .int .i64 z7]] w1 fun e w' => e = .returned (.string T) ∧ Below w1.heap.size w1 w')
    (cP : ∀ w1, Good w1 → Calls Tryd.prog 10 #[.string T] w1 fun e w' => e = .returned (.tuple #[.agg #[.int .i64 k, .string hl, .int .i64 hn, .int .i64 z0, .int .i64 z1, .int .i64 z2, .int .i64 z3, .int .i64 z4, .int .i64 z5, .int .i64 z6, .int .i64 z7], .bool true]) ∧ Below w1.heap.size w1 w')
    (cM : ∀ w1, Good w1 → Calls Tryd.prog 11 #[.agg #[.int .i64 k, .string hl, .int .i64 hn, .int .i64 z0, .int .i64 z1, .int .i64 z2, .int .i64 z3, .int .i64 z4, .int .i64 z5, .int .i64 z6, .int .i64 z7]] w1 fun e w' => e = .returned (.bool true) ∧ Below w1.heap.size w1 w')
    (cA : ∀ w1, Good w1 → Calls Tryd.prog 10 #[.string s] w1 fun e w' => e = .returned (.tuple #[.agg #[.int .i64 k2, .string hl2, .int .i64 hn2, .int .i64 v0, .int .i64 v1, .int .i64 v2, .int .i64 v3, .int .i64 v4, .int .i64 v5, .int .i64 v6, .int .i64 v7], .bool true]) ∧ Below w1.heap.size w1 w')
    (cS : ∀ w1, Good w1 → Calls Tryd.prog 9 #[.agg #[.int .i64 k2, .string hl2, .int .i64 hn2, .int .i64 v0, .int .i64 v1, .int .i64 v2, .int .i64 v3, .int .i64 v4, .int .i64 v5, .int .i64 v6, .int .i64 v7]] w1 fun e w' => e = .returned (.string U) ∧ Below w1.heap.size w1 w')
    (cB : ∀ w1, Good w1 → Calls Tryd.prog 10 #[.string U] w1 fun e w' => e = .returned (.tuple #[.agg #[.int .i64 k2, .string hl2, .int .i64 hn2, .int .i64 v0, .int .i64 v1, .int .i64 v2, .int .i64 v3, .int .i64 v4, .int .i64 v5, .int .i64 v6, .int .i64 v7], .bool true]) ∧ Below w1.heap.size w1 w')
    (cN : ∀ w1, Good w1 → Calls Tryd.prog 11 #[.agg #[.int .i64 k2, .string hl2, .int .i64 hn2, .int .i64 v0, .int .i64 v1, .int .i64 v2, .int .i64 v3, .int .i64 v4, .int .i64 v5, .int .i64 v6, .int .i64 v7]] w1 fun e w' => e = .returned (.bool true) ∧ Below w1.heap.size w1 w') :
    Calls Tryd.prog 3 #[.string s, .agg #[.int .i64 k, .string hl, .int .i64 hn, .int .i64 z0, .int .i64 z1, .int .i64 z2, .int .i64 z3, .int .i64 z4, .int .i64 z5, .int .i64 z6, .int .i64 z7]] w fun e w' => e = .returned (.bool true) ∧ Below w.heap.size w w' := by
  have d1 : decide ((300 : Int) < (s.size : Int)) = false := decide_eq_false (by omega)
  have d2 : decide ((300 : Int) < (hl.size : Int)) = false := decide_eq_false (by omega)
  have hE := fun w => eqHost k hl hn z0 z1 z2 z3 z4 z5 z6 z7 k hl hn z0 z1 z2 z3 z4 z5 z6 z7 w
  simp only [beq_self_eq_true, Bool.and_true] at hE
  unfold hV at hE
  have hF := fun w => eqHost k2 hl2 hn2 v0 v1 v2 v3 v4 v5 v6 v7 k2 hl2 hn2 v0 v1 v2 v3 v4 v5 v6 v7 w
  simp only [beq_self_eq_true, Bool.and_true] at hF
  unfold hV at hF
  have hk0 := Ok.refl hG
  go_enter Tryd.func3, Tryd.ntmps3
  have rH1 := heap_alloc_new w (.cells #[.int .i64 k, .string hl, .int .i64 hn, .int .i64 z0, .int .i64 z1, .int .i64 z2, .int .i64 z3, .int .i64 z4, .int .i64 z5, .int .i64 z6, .int .i64 z7] 24)
  have hka1 := hk0.alloc (.cells #[.int .i64 k, .string hl, .int .i64 hn, .int .i64 z0, .int .i64 z1, .int .i64 z2, .int .i64 z3, .int .i64 z4, .int .i64 z5, .int .i64 z6, .int .i64 z7] 24)
  obtain ⟨cH0, cH1, cH2, cH3, cH4, cH5, cH6, cH7, cH8, cH9, cH10⟩ := host_cells rH1
  go_wp2_with fail
  refine (awake7 (w.alloc (.cells #[.int .i64 k, .string hl, .int .i64 hn, .int .i64 z0, .int .i64 z1, .int .i64 z2, .int .i64 z3, .int .i64 z4, .int .i64 z5, .int .i64 z6, .int .i64 z7] 24)) hka1.good).mono ?_
  rintro e w1 ⟨rfl, hb1⟩
  have hkc1 := hka1.step hb1
  clear cH0 cH1 cH2 cH3 cH4 cH5 cH6 cH7 cH8 cH9 cH10
  have rH2 := block_below rH1 hb1 (lt_of_block rH1)
  obtain ⟨cH0, cH1, cH2, cH3, cH4, cH5, cH6, cH7, cH8, cH9, cH10⟩ := host_cells rH2
  go_wp2_with fail
  refine (cH w1 hkc1.good).mono ?_
  rintro e w2 ⟨rfl, hb2⟩
  have hkc2 := hkc1.step hb2
  clear cH0 cH1 cH2 cH3 cH4 cH5 cH6 cH7 cH8 cH9 cH10
  have rH3 := block_below rH2 hb2 (lt_of_block rH2)
  obtain ⟨cH0, cH1, cH2, cH3, cH4, cH5, cH6, cH7, cH8, cH9, cH10⟩ := host_cells rH3
  go_wp2_with fail
  refine (cP w2 hkc2.good).mono ?_
  rintro e w3 ⟨rfl, hb3⟩
  have hkc3 := hkc2.step hb3
  clear cH0 cH1 cH2 cH3 cH4 cH5 cH6 cH7 cH8 cH9 cH10
  have rH4 := block_below rH3 hb3 (lt_of_block rH3)
  have rHa5 := block_alloc rH4 (.cells #[.int .i64 k, .string hl, .int .i64 hn, .int .i64 z0, .int .i64 z1, .int .i64 z2, .int .i64 z3, .int .i64 z4, .int .i64 z5, .int .i64 z6, .int .i64 z7] 24)
  have rP5 := heap_alloc_new w3 (.cells #[.int .i64 k, .string hl, .int .i64 hn, .int .i64 z0, .int .i64 z1, .int .i64 z2, .int .i64 z3, .int .i64 z4, .int .i64 z5, .int .i64 z6, .int .i64 z7] 24)
  have hka5 := hkc3.alloc (.cells #[.int .i64 k, .string hl, .int .i64 hn, .int .i64 z0, .int .i64 z1, .int .i64 z2, .int .i64 z3, .int .i64 z4, .int .i64 z5, .int .i64 z6, .int .i64 z7] 24)
  obtain ⟨cH0, cH1, cH2, cH3, cH4, cH5, cH6, cH7, cH8, cH9, cH10⟩ := host_cells rHa5
  obtain ⟨cP0, cP1, cP2, cP3, cP4, cP5, cP6, cP7, cP8, cP9, cP10⟩ := host_cells rP5
  go_wp2_with fail
  refine (cM (w3.alloc (.cells #[.int .i64 k, .string hl, .int .i64 hn, .int .i64 z0, .int .i64 z1, .int .i64 z2, .int .i64 z3, .int .i64 z4, .int .i64 z5, .int .i64 z6, .int .i64 z7] 24)) hka5.good).mono ?_
  rintro e w4 ⟨rfl, hb4⟩
  have hkc4 := hka5.step hb4
  clear cH0 cH1 cH2 cH3 cH4 cH5 cH6 cH7 cH8 cH9 cH10 cP0 cP1 cP2 cP3 cP4 cP5 cP6 cP7 cP8 cP9 cP10
  have rH6 := block_below rHa5 hb4 (lt_of_block rHa5)
  have rP7 := block_below rP5 hb4 (lt_of_block rP5)
  obtain ⟨cH0, cH1, cH2, cH3, cH4, cH5, cH6, cH7, cH8, cH9, cH10⟩ := host_cells rH6
  obtain ⟨cP0, cP1, cP2, cP3, cP4, cP5, cP6, cP7, cP8, cP9, cP10⟩ := host_cells rP7
  go_wp2_with fail
  refine (cA w4 hkc4.good).mono ?_
  rintro e w5 ⟨rfl, hb5⟩
  have hkc5 := hkc4.step hb5
  clear cH0 cH1 cH2 cH3 cH4 cH5 cH6 cH7 cH8 cH9 cH10 cP0 cP1 cP2 cP3 cP4 cP5 cP6 cP7 cP8 cP9 cP10
  have rH8 := block_below rH6 hb5 (lt_of_block rH6)
  have rP9 := block_below rP7 hb5 (lt_of_block rP7)
  have rHa10 := block_alloc rH8 (.cells #[.int .i64 k2, .string hl2, .int .i64 hn2, .int .i64 v0, .int .i64 v1, .int .i64 v2, .int .i64 v3, .int .i64 v4, .int .i64 v5, .int .i64 v6, .int .i64 v7] 24)
  have rPa10 := block_alloc rP9 (.cells #[.int .i64 k2, .string hl2, .int .i64 hn2, .int .i64 v0, .int .i64 v1, .int .i64 v2, .int .i64 v3, .int .i64 v4, .int .i64 v5, .int .i64 v6, .int .i64 v7] 24)
  have rA10 := heap_alloc_new w5 (.cells #[.int .i64 k2, .string hl2, .int .i64 hn2, .int .i64 v0, .int .i64 v1, .int .i64 v2, .int .i64 v3, .int .i64 v4, .int .i64 v5, .int .i64 v6, .int .i64 v7] 24)
  have hka10 := hkc5.alloc (.cells #[.int .i64 k2, .string hl2, .int .i64 hn2, .int .i64 v0, .int .i64 v1, .int .i64 v2, .int .i64 v3, .int .i64 v4, .int .i64 v5, .int .i64 v6, .int .i64 v7] 24)
  obtain ⟨cH0, cH1, cH2, cH3, cH4, cH5, cH6, cH7, cH8, cH9, cH10⟩ := host_cells rHa10
  obtain ⟨cP0, cP1, cP2, cP3, cP4, cP5, cP6, cP7, cP8, cP9, cP10⟩ := host_cells rPa10
  obtain ⟨cA0, cA1, cA2, cA3, cA4, cA5, cA6, cA7, cA8, cA9, cA10⟩ := host_cells rA10
  go_wp2_with fail
  refine (cS (w5.alloc (.cells #[.int .i64 k2, .string hl2, .int .i64 hn2, .int .i64 v0, .int .i64 v1, .int .i64 v2, .int .i64 v3, .int .i64 v4, .int .i64 v5, .int .i64 v6, .int .i64 v7] 24)) hka10.good).mono ?_
  rintro e w6 ⟨rfl, hb6⟩
  have hkc6 := hka10.step hb6
  clear cH0 cH1 cH2 cH3 cH4 cH5 cH6 cH7 cH8 cH9 cH10 cP0 cP1 cP2 cP3 cP4 cP5 cP6 cP7 cP8 cP9 cP10 cA0 cA1 cA2 cA3 cA4 cA5 cA6 cA7 cA8 cA9 cA10
  have rH11 := block_below rHa10 hb6 (lt_of_block rHa10)
  have rP12 := block_below rPa10 hb6 (lt_of_block rPa10)
  have rA13 := block_below rA10 hb6 (lt_of_block rA10)
  obtain ⟨cH0, cH1, cH2, cH3, cH4, cH5, cH6, cH7, cH8, cH9, cH10⟩ := host_cells rH11
  obtain ⟨cP0, cP1, cP2, cP3, cP4, cP5, cP6, cP7, cP8, cP9, cP10⟩ := host_cells rP12
  obtain ⟨cA0, cA1, cA2, cA3, cA4, cA5, cA6, cA7, cA8, cA9, cA10⟩ := host_cells rA13
  go_wp2_with fail
  refine (cB w6 hkc6.good).mono ?_
  rintro e w7 ⟨rfl, hb7⟩
  have hkc7 := hkc6.step hb7
  clear cH0 cH1 cH2 cH3 cH4 cH5 cH6 cH7 cH8 cH9 cH10 cP0 cP1 cP2 cP3 cP4 cP5 cP6 cP7 cP8 cP9 cP10 cA0 cA1 cA2 cA3 cA4 cA5 cA6 cA7 cA8 cA9 cA10
  have rH14 := block_below rH11 hb7 (lt_of_block rH11)
  have rP15 := block_below rP12 hb7 (lt_of_block rP12)
  have rA16 := block_below rA13 hb7 (lt_of_block rA13)
  have rHa17 := block_alloc rH14 (.cells #[.int .i64 k2, .string hl2, .int .i64 hn2, .int .i64 v0, .int .i64 v1, .int .i64 v2, .int .i64 v3, .int .i64 v4, .int .i64 v5, .int .i64 v6, .int .i64 v7] 24)
  have rPa17 := block_alloc rP15 (.cells #[.int .i64 k2, .string hl2, .int .i64 hn2, .int .i64 v0, .int .i64 v1, .int .i64 v2, .int .i64 v3, .int .i64 v4, .int .i64 v5, .int .i64 v6, .int .i64 v7] 24)
  have rAa17 := block_alloc rA16 (.cells #[.int .i64 k2, .string hl2, .int .i64 hn2, .int .i64 v0, .int .i64 v1, .int .i64 v2, .int .i64 v3, .int .i64 v4, .int .i64 v5, .int .i64 v6, .int .i64 v7] 24)
  have rB17 := heap_alloc_new w7 (.cells #[.int .i64 k2, .string hl2, .int .i64 hn2, .int .i64 v0, .int .i64 v1, .int .i64 v2, .int .i64 v3, .int .i64 v4, .int .i64 v5, .int .i64 v6, .int .i64 v7] 24)
  have hka17 := hkc7.alloc (.cells #[.int .i64 k2, .string hl2, .int .i64 hn2, .int .i64 v0, .int .i64 v1, .int .i64 v2, .int .i64 v3, .int .i64 v4, .int .i64 v5, .int .i64 v6, .int .i64 v7] 24)
  obtain ⟨cH0, cH1, cH2, cH3, cH4, cH5, cH6, cH7, cH8, cH9, cH10⟩ := host_cells rHa17
  obtain ⟨cP0, cP1, cP2, cP3, cP4, cP5, cP6, cP7, cP8, cP9, cP10⟩ := host_cells rPa17
  obtain ⟨cA0, cA1, cA2, cA3, cA4, cA5, cA6, cA7, cA8, cA9, cA10⟩ := host_cells rAa17
  obtain ⟨cB0, cB1, cB2, cB3, cB4, cB5, cB6, cB7, cB8, cB9, cB10⟩ := host_cells rB17
  go_wp2_with fail
  refine (cN (w7.alloc (.cells #[.int .i64 k2, .string hl2, .int .i64 hn2, .int .i64 v0, .int .i64 v1, .int .i64 v2, .int .i64 v3, .int .i64 v4, .int .i64 v5, .int .i64 v6, .int .i64 v7] 24)) hka17.good).mono ?_
  rintro e w8 ⟨rfl, hb8⟩
  have hkc8 := hka17.step hb8
  clear cH0 cH1 cH2 cH3 cH4 cH5 cH6 cH7 cH8 cH9 cH10 cP0 cP1 cP2 cP3 cP4 cP5 cP6 cP7 cP8 cP9 cP10 cA0 cA1 cA2 cA3 cA4 cA5 cA6 cA7 cA8 cA9 cA10 cB0 cB1 cB2 cB3 cB4 cB5 cB6 cB7 cB8 cB9 cB10
  have rH18 := block_below rHa17 hb8 (lt_of_block rHa17)
  have rP19 := block_below rPa17 hb8 (lt_of_block rPa17)
  have rA20 := block_below rAa17 hb8 (lt_of_block rAa17)
  have rB21 := block_below rB17 hb8 (lt_of_block rB17)
  obtain ⟨cH0, cH1, cH2, cH3, cH4, cH5, cH6, cH7, cH8, cH9, cH10⟩ := host_cells rH18
  obtain ⟨cP0, cP1, cP2, cP3, cP4, cP5, cP6, cP7, cP8, cP9, cP10⟩ := host_cells rP19
  obtain ⟨cA0, cA1, cA2, cA3, cA4, cA5, cA6, cA7, cA8, cA9, cA10⟩ := host_cells rA20
  obtain ⟨cB0, cB1, cB2, cB3, cB4, cB5, cB6, cB7, cB8, cB9, cB10⟩ := host_cells rB21
  go_wp2
  go_ret
  exact ⟨rfl, hkc8.below⟩

set_option maxHeartbeats 8000000 in
set_option maxRecDepth 100000 in
theorem back_y_n (s : ByteArray) (k : Int) (hl : ByteArray) (hn z0 z1 z2 z3 z4 z5 z6 z7 : Int) (hs : s.size ≤ 300) (hhl : hl.size ≤ 300) (T : ByteArray) (hT : T.toList.isEmpty = false) (w : World) (hG : Good w)
    (cH : ∀ w1, Good w1 → Calls Tryd.prog 9 #[.agg #[.int .i64 k, .string hl, .int .i64 hn, .int .i64 z0, .int .i64 z1, .int .i64 z2, .int .i64 z3, .int .i64 z4, .int .i64 z5, .int .i64 z6, .int .i64 z7]] w1 fun e w' => e = .returned (.string T) ∧ Below w1.heap.size w1 w')
    (cP : ∀ w1, Good w1 → Calls Tryd.prog 10 #[.string T] w1 fun e w' => e = .returned (.tuple #[.agg #[.int .i64 k, .string hl, .int .i64 hn, .int .i64 z0, .int .i64 z1, .int .i64 z2, .int .i64 z3, .int .i64 z4, .int .i64 z5, .int .i64 z6, .int .i64 z7], .bool true]) ∧ Below w1.heap.size w1 w')
    (cM : ∀ w1, Good w1 → Calls Tryd.prog 11 #[.agg #[.int .i64 k, .string hl, .int .i64 hn, .int .i64 z0, .int .i64 z1, .int .i64 z2, .int .i64 z3, .int .i64 z4, .int .i64 z5, .int .i64 z6, .int .i64 z7]] w1 fun e w' => e = .returned (.bool true) ∧ Below w1.heap.size w1 w')
    (cA : ∀ w1, Good w1 → Calls Tryd.prog 10 #[.string s] w1 fun e w' => e = .returned (.tuple #[.agg #[.int .i64 0, .string ⟨#[]⟩, .int .i64 0, .int .i64 0, .int .i64 0, .int .i64 0, .int .i64 0, .int .i64 0, .int .i64 0, .int .i64 0, .int .i64 0], .bool false]) ∧ Below w1.heap.size w1 w')
    (cS : ∀ w1, Good w1 → Calls Tryd.prog 9 #[.agg #[.int .i64 0, .string ⟨#[]⟩, .int .i64 0, .int .i64 0, .int .i64 0, .int .i64 0, .int .i64 0, .int .i64 0, .int .i64 0, .int .i64 0, .int .i64 0]] w1 fun e w' => e = .returned (.string ⟨#[]⟩) ∧ Below w1.heap.size w1 w')
    (cB : ∀ w1, Good w1 → Calls Tryd.prog 10 #[.string ⟨#[]⟩] w1 fun e w' => e = .returned (.tuple #[.agg #[.int .i64 0, .string ⟨#[]⟩, .int .i64 0, .int .i64 0, .int .i64 0, .int .i64 0, .int .i64 0, .int .i64 0, .int .i64 0, .int .i64 0, .int .i64 0], .bool false]) ∧ Below w1.heap.size w1 w') :
    Calls Tryd.prog 3 #[.string s, .agg #[.int .i64 k, .string hl, .int .i64 hn, .int .i64 z0, .int .i64 z1, .int .i64 z2, .int .i64 z3, .int .i64 z4, .int .i64 z5, .int .i64 z6, .int .i64 z7]] w fun e w' => e = .returned (.bool true) ∧ Below w.heap.size w w' := by
  have d1 : decide ((300 : Int) < (s.size : Int)) = false := decide_eq_false (by omega)
  have d2 : decide ((300 : Int) < (hl.size : Int)) = false := decide_eq_false (by omega)
  have hE := fun w => eqHost k hl hn z0 z1 z2 z3 z4 z5 z6 z7 k hl hn z0 z1 z2 z3 z4 z5 z6 z7 w
  simp only [beq_self_eq_true, Bool.and_true] at hE
  unfold hV at hE
  have hk0 := Ok.refl hG
  go_enter Tryd.func3, Tryd.ntmps3
  have rH1 := heap_alloc_new w (.cells #[.int .i64 k, .string hl, .int .i64 hn, .int .i64 z0, .int .i64 z1, .int .i64 z2, .int .i64 z3, .int .i64 z4, .int .i64 z5, .int .i64 z6, .int .i64 z7] 24)
  have hka1 := hk0.alloc (.cells #[.int .i64 k, .string hl, .int .i64 hn, .int .i64 z0, .int .i64 z1, .int .i64 z2, .int .i64 z3, .int .i64 z4, .int .i64 z5, .int .i64 z6, .int .i64 z7] 24)
  obtain ⟨cH0, cH1, cH2, cH3, cH4, cH5, cH6, cH7, cH8, cH9, cH10⟩ := host_cells rH1
  go_wp2_with fail
  refine (awake7 (w.alloc (.cells #[.int .i64 k, .string hl, .int .i64 hn, .int .i64 z0, .int .i64 z1, .int .i64 z2, .int .i64 z3, .int .i64 z4, .int .i64 z5, .int .i64 z6, .int .i64 z7] 24)) hka1.good).mono ?_
  rintro e w1 ⟨rfl, hb1⟩
  have hkc1 := hka1.step hb1
  clear cH0 cH1 cH2 cH3 cH4 cH5 cH6 cH7 cH8 cH9 cH10
  have rH2 := block_below rH1 hb1 (lt_of_block rH1)
  obtain ⟨cH0, cH1, cH2, cH3, cH4, cH5, cH6, cH7, cH8, cH9, cH10⟩ := host_cells rH2
  go_wp2_with fail
  refine (cH w1 hkc1.good).mono ?_
  rintro e w2 ⟨rfl, hb2⟩
  have hkc2 := hkc1.step hb2
  clear cH0 cH1 cH2 cH3 cH4 cH5 cH6 cH7 cH8 cH9 cH10
  have rH3 := block_below rH2 hb2 (lt_of_block rH2)
  obtain ⟨cH0, cH1, cH2, cH3, cH4, cH5, cH6, cH7, cH8, cH9, cH10⟩ := host_cells rH3
  go_wp2_with fail
  refine (cP w2 hkc2.good).mono ?_
  rintro e w3 ⟨rfl, hb3⟩
  have hkc3 := hkc2.step hb3
  clear cH0 cH1 cH2 cH3 cH4 cH5 cH6 cH7 cH8 cH9 cH10
  have rH4 := block_below rH3 hb3 (lt_of_block rH3)
  have rHa5 := block_alloc rH4 (.cells #[.int .i64 k, .string hl, .int .i64 hn, .int .i64 z0, .int .i64 z1, .int .i64 z2, .int .i64 z3, .int .i64 z4, .int .i64 z5, .int .i64 z6, .int .i64 z7] 24)
  have rP5 := heap_alloc_new w3 (.cells #[.int .i64 k, .string hl, .int .i64 hn, .int .i64 z0, .int .i64 z1, .int .i64 z2, .int .i64 z3, .int .i64 z4, .int .i64 z5, .int .i64 z6, .int .i64 z7] 24)
  have hka5 := hkc3.alloc (.cells #[.int .i64 k, .string hl, .int .i64 hn, .int .i64 z0, .int .i64 z1, .int .i64 z2, .int .i64 z3, .int .i64 z4, .int .i64 z5, .int .i64 z6, .int .i64 z7] 24)
  obtain ⟨cH0, cH1, cH2, cH3, cH4, cH5, cH6, cH7, cH8, cH9, cH10⟩ := host_cells rHa5
  obtain ⟨cP0, cP1, cP2, cP3, cP4, cP5, cP6, cP7, cP8, cP9, cP10⟩ := host_cells rP5
  go_wp2_with fail
  refine (cM (w3.alloc (.cells #[.int .i64 k, .string hl, .int .i64 hn, .int .i64 z0, .int .i64 z1, .int .i64 z2, .int .i64 z3, .int .i64 z4, .int .i64 z5, .int .i64 z6, .int .i64 z7] 24)) hka5.good).mono ?_
  rintro e w4 ⟨rfl, hb4⟩
  have hkc4 := hka5.step hb4
  clear cH0 cH1 cH2 cH3 cH4 cH5 cH6 cH7 cH8 cH9 cH10 cP0 cP1 cP2 cP3 cP4 cP5 cP6 cP7 cP8 cP9 cP10
  have rH6 := block_below rHa5 hb4 (lt_of_block rHa5)
  have rP7 := block_below rP5 hb4 (lt_of_block rP5)
  obtain ⟨cH0, cH1, cH2, cH3, cH4, cH5, cH6, cH7, cH8, cH9, cH10⟩ := host_cells rH6
  obtain ⟨cP0, cP1, cP2, cP3, cP4, cP5, cP6, cP7, cP8, cP9, cP10⟩ := host_cells rP7
  go_wp2_with fail
  refine (cA w4 hkc4.good).mono ?_
  rintro e w5 ⟨rfl, hb5⟩
  have hkc5 := hkc4.step hb5
  clear cH0 cH1 cH2 cH3 cH4 cH5 cH6 cH7 cH8 cH9 cH10 cP0 cP1 cP2 cP3 cP4 cP5 cP6 cP7 cP8 cP9 cP10
  have rH8 := block_below rH6 hb5 (lt_of_block rH6)
  have rP9 := block_below rP7 hb5 (lt_of_block rP7)
  have rHa10 := block_alloc rH8 (.cells #[.int .i64 0, .string ⟨#[]⟩, .int .i64 0, .int .i64 0, .int .i64 0, .int .i64 0, .int .i64 0, .int .i64 0, .int .i64 0, .int .i64 0, .int .i64 0] 24)
  have rPa10 := block_alloc rP9 (.cells #[.int .i64 0, .string ⟨#[]⟩, .int .i64 0, .int .i64 0, .int .i64 0, .int .i64 0, .int .i64 0, .int .i64 0, .int .i64 0, .int .i64 0, .int .i64 0] 24)
  have rA10 := heap_alloc_new w5 (.cells #[.int .i64 0, .string ⟨#[]⟩, .int .i64 0, .int .i64 0, .int .i64 0, .int .i64 0, .int .i64 0, .int .i64 0, .int .i64 0, .int .i64 0, .int .i64 0] 24)
  have hka10 := hkc5.alloc (.cells #[.int .i64 0, .string ⟨#[]⟩, .int .i64 0, .int .i64 0, .int .i64 0, .int .i64 0, .int .i64 0, .int .i64 0, .int .i64 0, .int .i64 0, .int .i64 0] 24)
  obtain ⟨cH0, cH1, cH2, cH3, cH4, cH5, cH6, cH7, cH8, cH9, cH10⟩ := host_cells rHa10
  obtain ⟨cP0, cP1, cP2, cP3, cP4, cP5, cP6, cP7, cP8, cP9, cP10⟩ := host_cells rPa10
  obtain ⟨cA0, cA1, cA2, cA3, cA4, cA5, cA6, cA7, cA8, cA9, cA10⟩ := host_cells rA10
  go_wp2_with fail
  refine (cS (w5.alloc (.cells #[.int .i64 0, .string ⟨#[]⟩, .int .i64 0, .int .i64 0, .int .i64 0, .int .i64 0, .int .i64 0, .int .i64 0, .int .i64 0, .int .i64 0, .int .i64 0] 24)) hka10.good).mono ?_
  rintro e w6 ⟨rfl, hb6⟩
  have hkc6 := hka10.step hb6
  clear cH0 cH1 cH2 cH3 cH4 cH5 cH6 cH7 cH8 cH9 cH10 cP0 cP1 cP2 cP3 cP4 cP5 cP6 cP7 cP8 cP9 cP10 cA0 cA1 cA2 cA3 cA4 cA5 cA6 cA7 cA8 cA9 cA10
  have rH11 := block_below rHa10 hb6 (lt_of_block rHa10)
  have rP12 := block_below rPa10 hb6 (lt_of_block rPa10)
  have rA13 := block_below rA10 hb6 (lt_of_block rA10)
  obtain ⟨cH0, cH1, cH2, cH3, cH4, cH5, cH6, cH7, cH8, cH9, cH10⟩ := host_cells rH11
  obtain ⟨cP0, cP1, cP2, cP3, cP4, cP5, cP6, cP7, cP8, cP9, cP10⟩ := host_cells rP12
  obtain ⟨cA0, cA1, cA2, cA3, cA4, cA5, cA6, cA7, cA8, cA9, cA10⟩ := host_cells rA13
  go_wp2_with fail
  refine (cB w6 hkc6.good).mono ?_
  rintro e w7 ⟨rfl, hb7⟩
  have hkc7 := hkc6.step hb7
  clear cH0 cH1 cH2 cH3 cH4 cH5 cH6 cH7 cH8 cH9 cH10 cP0 cP1 cP2 cP3 cP4 cP5 cP6 cP7 cP8 cP9 cP10 cA0 cA1 cA2 cA3 cA4 cA5 cA6 cA7 cA8 cA9 cA10
  have rH14 := block_below rH11 hb7 (lt_of_block rH11)
  have rP15 := block_below rP12 hb7 (lt_of_block rP12)
  have rA16 := block_below rA13 hb7 (lt_of_block rA13)
  have rHa17 := block_alloc rH14 (.cells #[.int .i64 0, .string ⟨#[]⟩, .int .i64 0, .int .i64 0, .int .i64 0, .int .i64 0, .int .i64 0, .int .i64 0, .int .i64 0, .int .i64 0, .int .i64 0] 24)
  have rPa17 := block_alloc rP15 (.cells #[.int .i64 0, .string ⟨#[]⟩, .int .i64 0, .int .i64 0, .int .i64 0, .int .i64 0, .int .i64 0, .int .i64 0, .int .i64 0, .int .i64 0, .int .i64 0] 24)
  have rAa17 := block_alloc rA16 (.cells #[.int .i64 0, .string ⟨#[]⟩, .int .i64 0, .int .i64 0, .int .i64 0, .int .i64 0, .int .i64 0, .int .i64 0, .int .i64 0, .int .i64 0, .int .i64 0] 24)
  have rB17 := heap_alloc_new w7 (.cells #[.int .i64 0, .string ⟨#[]⟩, .int .i64 0, .int .i64 0, .int .i64 0, .int .i64 0, .int .i64 0, .int .i64 0, .int .i64 0, .int .i64 0, .int .i64 0] 24)
  have hka17 := hkc7.alloc (.cells #[.int .i64 0, .string ⟨#[]⟩, .int .i64 0, .int .i64 0, .int .i64 0, .int .i64 0, .int .i64 0, .int .i64 0, .int .i64 0, .int .i64 0, .int .i64 0] 24)
  obtain ⟨cH0, cH1, cH2, cH3, cH4, cH5, cH6, cH7, cH8, cH9, cH10⟩ := host_cells rHa17
  obtain ⟨cP0, cP1, cP2, cP3, cP4, cP5, cP6, cP7, cP8, cP9, cP10⟩ := host_cells rPa17
  obtain ⟨cA0, cA1, cA2, cA3, cA4, cA5, cA6, cA7, cA8, cA9, cA10⟩ := host_cells rAa17
  obtain ⟨cB0, cB1, cB2, cB3, cB4, cB5, cB6, cB7, cB8, cB9, cB10⟩ := host_cells rB17
  go_wp2
  go_ret
  exact ⟨rfl, hka17.below⟩

set_option maxHeartbeats 8000000 in
set_option maxRecDepth 100000 in
theorem back_n_y (s : ByteArray) (k : Int) (hl : ByteArray) (hn z0 z1 z2 z3 z4 z5 z6 z7 : Int) (hs : s.size ≤ 300) (hhl : hl.size ≤ 300) (k2 : Int) (hl2 : ByteArray) (hn2 v0 v1 v2 v3 v4 v5 v6 v7 : Int) (U : ByteArray) (w : World) (hG : Good w)
    (cH : ∀ w1, Good w1 → Calls Tryd.prog 9 #[.agg #[.int .i64 k, .string hl, .int .i64 hn, .int .i64 z0, .int .i64 z1, .int .i64 z2, .int .i64 z3, .int .i64 z4, .int .i64 z5, .int .i64 z6, .int .i64 z7]] w1 fun e w' => e = .returned (.string ⟨#[]⟩) ∧ Below w1.heap.size w1 w')
    (cP : ∀ w1, Good w1 → Calls Tryd.prog 10 #[.string ⟨#[]⟩] w1 fun e w' => e = .returned (.tuple #[.agg #[.int .i64 0, .string ⟨#[]⟩, .int .i64 0, .int .i64 0, .int .i64 0, .int .i64 0, .int .i64 0, .int .i64 0, .int .i64 0, .int .i64 0, .int .i64 0], .bool false]) ∧ Below w1.heap.size w1 w')
    (cM : ∀ w1, Good w1 → Calls Tryd.prog 11 #[.agg #[.int .i64 k, .string hl, .int .i64 hn, .int .i64 z0, .int .i64 z1, .int .i64 z2, .int .i64 z3, .int .i64 z4, .int .i64 z5, .int .i64 z6, .int .i64 z7]] w1 fun e w' => e = .returned (.bool false) ∧ Below w1.heap.size w1 w')
    (cA : ∀ w1, Good w1 → Calls Tryd.prog 10 #[.string s] w1 fun e w' => e = .returned (.tuple #[.agg #[.int .i64 k2, .string hl2, .int .i64 hn2, .int .i64 v0, .int .i64 v1, .int .i64 v2, .int .i64 v3, .int .i64 v4, .int .i64 v5, .int .i64 v6, .int .i64 v7], .bool true]) ∧ Below w1.heap.size w1 w')
    (cS : ∀ w1, Good w1 → Calls Tryd.prog 9 #[.agg #[.int .i64 k2, .string hl2, .int .i64 hn2, .int .i64 v0, .int .i64 v1, .int .i64 v2, .int .i64 v3, .int .i64 v4, .int .i64 v5, .int .i64 v6, .int .i64 v7]] w1 fun e w' => e = .returned (.string U) ∧ Below w1.heap.size w1 w')
    (cB : ∀ w1, Good w1 → Calls Tryd.prog 10 #[.string U] w1 fun e w' => e = .returned (.tuple #[.agg #[.int .i64 k2, .string hl2, .int .i64 hn2, .int .i64 v0, .int .i64 v1, .int .i64 v2, .int .i64 v3, .int .i64 v4, .int .i64 v5, .int .i64 v6, .int .i64 v7], .bool true]) ∧ Below w1.heap.size w1 w')
    (cN : ∀ w1, Good w1 → Calls Tryd.prog 11 #[.agg #[.int .i64 k2, .string hl2, .int .i64 hn2, .int .i64 v0, .int .i64 v1, .int .i64 v2, .int .i64 v3, .int .i64 v4, .int .i64 v5, .int .i64 v6, .int .i64 v7]] w1 fun e w' => e = .returned (.bool true) ∧ Below w1.heap.size w1 w') :
    Calls Tryd.prog 3 #[.string s, .agg #[.int .i64 k, .string hl, .int .i64 hn, .int .i64 z0, .int .i64 z1, .int .i64 z2, .int .i64 z3, .int .i64 z4, .int .i64 z5, .int .i64 z6, .int .i64 z7]] w fun e w' => e = .returned (.bool true) ∧ Below w.heap.size w w' := by
  have d1 : decide ((300 : Int) < (s.size : Int)) = false := decide_eq_false (by omega)
  have d2 : decide ((300 : Int) < (hl.size : Int)) = false := decide_eq_false (by omega)
  have hF := fun w => eqHost k2 hl2 hn2 v0 v1 v2 v3 v4 v5 v6 v7 k2 hl2 hn2 v0 v1 v2 v3 v4 v5 v6 v7 w
  simp only [beq_self_eq_true, Bool.and_true] at hF
  unfold hV at hF
  have hk0 := Ok.refl hG
  go_enter Tryd.func3, Tryd.ntmps3
  have rH1 := heap_alloc_new w (.cells #[.int .i64 k, .string hl, .int .i64 hn, .int .i64 z0, .int .i64 z1, .int .i64 z2, .int .i64 z3, .int .i64 z4, .int .i64 z5, .int .i64 z6, .int .i64 z7] 24)
  have hka1 := hk0.alloc (.cells #[.int .i64 k, .string hl, .int .i64 hn, .int .i64 z0, .int .i64 z1, .int .i64 z2, .int .i64 z3, .int .i64 z4, .int .i64 z5, .int .i64 z6, .int .i64 z7] 24)
  obtain ⟨cH0, cH1, cH2, cH3, cH4, cH5, cH6, cH7, cH8, cH9, cH10⟩ := host_cells rH1
  go_wp2_with fail
  refine (awake7 (w.alloc (.cells #[.int .i64 k, .string hl, .int .i64 hn, .int .i64 z0, .int .i64 z1, .int .i64 z2, .int .i64 z3, .int .i64 z4, .int .i64 z5, .int .i64 z6, .int .i64 z7] 24)) hka1.good).mono ?_
  rintro e w1 ⟨rfl, hb1⟩
  have hkc1 := hka1.step hb1
  clear cH0 cH1 cH2 cH3 cH4 cH5 cH6 cH7 cH8 cH9 cH10
  have rH2 := block_below rH1 hb1 (lt_of_block rH1)
  obtain ⟨cH0, cH1, cH2, cH3, cH4, cH5, cH6, cH7, cH8, cH9, cH10⟩ := host_cells rH2
  go_wp2_with fail
  refine (cH w1 hkc1.good).mono ?_
  rintro e w2 ⟨rfl, hb2⟩
  have hkc2 := hkc1.step hb2
  clear cH0 cH1 cH2 cH3 cH4 cH5 cH6 cH7 cH8 cH9 cH10
  have rH3 := block_below rH2 hb2 (lt_of_block rH2)
  obtain ⟨cH0, cH1, cH2, cH3, cH4, cH5, cH6, cH7, cH8, cH9, cH10⟩ := host_cells rH3
  go_wp2_with fail
  refine (cP w2 hkc2.good).mono ?_
  rintro e w3 ⟨rfl, hb3⟩
  have hkc3 := hkc2.step hb3
  clear cH0 cH1 cH2 cH3 cH4 cH5 cH6 cH7 cH8 cH9 cH10
  have rH4 := block_below rH3 hb3 (lt_of_block rH3)
  have rHa5 := block_alloc rH4 (.cells #[.int .i64 0, .string ⟨#[]⟩, .int .i64 0, .int .i64 0, .int .i64 0, .int .i64 0, .int .i64 0, .int .i64 0, .int .i64 0, .int .i64 0, .int .i64 0] 24)
  have rP5 := heap_alloc_new w3 (.cells #[.int .i64 0, .string ⟨#[]⟩, .int .i64 0, .int .i64 0, .int .i64 0, .int .i64 0, .int .i64 0, .int .i64 0, .int .i64 0, .int .i64 0, .int .i64 0] 24)
  have hka5 := hkc3.alloc (.cells #[.int .i64 0, .string ⟨#[]⟩, .int .i64 0, .int .i64 0, .int .i64 0, .int .i64 0, .int .i64 0, .int .i64 0, .int .i64 0, .int .i64 0, .int .i64 0] 24)
  obtain ⟨cH0, cH1, cH2, cH3, cH4, cH5, cH6, cH7, cH8, cH9, cH10⟩ := host_cells rHa5
  obtain ⟨cP0, cP1, cP2, cP3, cP4, cP5, cP6, cP7, cP8, cP9, cP10⟩ := host_cells rP5
  go_wp2_with fail
  refine (cM (w3.alloc (.cells #[.int .i64 0, .string ⟨#[]⟩, .int .i64 0, .int .i64 0, .int .i64 0, .int .i64 0, .int .i64 0, .int .i64 0, .int .i64 0, .int .i64 0, .int .i64 0] 24)) hka5.good).mono ?_
  rintro e w4 ⟨rfl, hb4⟩
  have hkc4 := hka5.step hb4
  clear cH0 cH1 cH2 cH3 cH4 cH5 cH6 cH7 cH8 cH9 cH10 cP0 cP1 cP2 cP3 cP4 cP5 cP6 cP7 cP8 cP9 cP10
  have rH6 := block_below rHa5 hb4 (lt_of_block rHa5)
  have rP7 := block_below rP5 hb4 (lt_of_block rP5)
  obtain ⟨cH0, cH1, cH2, cH3, cH4, cH5, cH6, cH7, cH8, cH9, cH10⟩ := host_cells rH6
  obtain ⟨cP0, cP1, cP2, cP3, cP4, cP5, cP6, cP7, cP8, cP9, cP10⟩ := host_cells rP7
  go_wp2_with fail
  refine (cA w4 hkc4.good).mono ?_
  rintro e w5 ⟨rfl, hb5⟩
  have hkc5 := hkc4.step hb5
  clear cH0 cH1 cH2 cH3 cH4 cH5 cH6 cH7 cH8 cH9 cH10 cP0 cP1 cP2 cP3 cP4 cP5 cP6 cP7 cP8 cP9 cP10
  have rH8 := block_below rH6 hb5 (lt_of_block rH6)
  have rP9 := block_below rP7 hb5 (lt_of_block rP7)
  have rHa10 := block_alloc rH8 (.cells #[.int .i64 k2, .string hl2, .int .i64 hn2, .int .i64 v0, .int .i64 v1, .int .i64 v2, .int .i64 v3, .int .i64 v4, .int .i64 v5, .int .i64 v6, .int .i64 v7] 24)
  have rPa10 := block_alloc rP9 (.cells #[.int .i64 k2, .string hl2, .int .i64 hn2, .int .i64 v0, .int .i64 v1, .int .i64 v2, .int .i64 v3, .int .i64 v4, .int .i64 v5, .int .i64 v6, .int .i64 v7] 24)
  have rA10 := heap_alloc_new w5 (.cells #[.int .i64 k2, .string hl2, .int .i64 hn2, .int .i64 v0, .int .i64 v1, .int .i64 v2, .int .i64 v3, .int .i64 v4, .int .i64 v5, .int .i64 v6, .int .i64 v7] 24)
  have hka10 := hkc5.alloc (.cells #[.int .i64 k2, .string hl2, .int .i64 hn2, .int .i64 v0, .int .i64 v1, .int .i64 v2, .int .i64 v3, .int .i64 v4, .int .i64 v5, .int .i64 v6, .int .i64 v7] 24)
  obtain ⟨cH0, cH1, cH2, cH3, cH4, cH5, cH6, cH7, cH8, cH9, cH10⟩ := host_cells rHa10
  obtain ⟨cP0, cP1, cP2, cP3, cP4, cP5, cP6, cP7, cP8, cP9, cP10⟩ := host_cells rPa10
  obtain ⟨cA0, cA1, cA2, cA3, cA4, cA5, cA6, cA7, cA8, cA9, cA10⟩ := host_cells rA10
  go_wp2_with fail
  refine (cS (w5.alloc (.cells #[.int .i64 k2, .string hl2, .int .i64 hn2, .int .i64 v0, .int .i64 v1, .int .i64 v2, .int .i64 v3, .int .i64 v4, .int .i64 v5, .int .i64 v6, .int .i64 v7] 24)) hka10.good).mono ?_
  rintro e w6 ⟨rfl, hb6⟩
  have hkc6 := hka10.step hb6
  clear cH0 cH1 cH2 cH3 cH4 cH5 cH6 cH7 cH8 cH9 cH10 cP0 cP1 cP2 cP3 cP4 cP5 cP6 cP7 cP8 cP9 cP10 cA0 cA1 cA2 cA3 cA4 cA5 cA6 cA7 cA8 cA9 cA10
  have rH11 := block_below rHa10 hb6 (lt_of_block rHa10)
  have rP12 := block_below rPa10 hb6 (lt_of_block rPa10)
  have rA13 := block_below rA10 hb6 (lt_of_block rA10)
  obtain ⟨cH0, cH1, cH2, cH3, cH4, cH5, cH6, cH7, cH8, cH9, cH10⟩ := host_cells rH11
  obtain ⟨cP0, cP1, cP2, cP3, cP4, cP5, cP6, cP7, cP8, cP9, cP10⟩ := host_cells rP12
  obtain ⟨cA0, cA1, cA2, cA3, cA4, cA5, cA6, cA7, cA8, cA9, cA10⟩ := host_cells rA13
  go_wp2_with fail
  refine (cB w6 hkc6.good).mono ?_
  rintro e w7 ⟨rfl, hb7⟩
  have hkc7 := hkc6.step hb7
  clear cH0 cH1 cH2 cH3 cH4 cH5 cH6 cH7 cH8 cH9 cH10 cP0 cP1 cP2 cP3 cP4 cP5 cP6 cP7 cP8 cP9 cP10 cA0 cA1 cA2 cA3 cA4 cA5 cA6 cA7 cA8 cA9 cA10
  have rH14 := block_below rH11 hb7 (lt_of_block rH11)
  have rP15 := block_below rP12 hb7 (lt_of_block rP12)
  have rA16 := block_below rA13 hb7 (lt_of_block rA13)
  have rHa17 := block_alloc rH14 (.cells #[.int .i64 k2, .string hl2, .int .i64 hn2, .int .i64 v0, .int .i64 v1, .int .i64 v2, .int .i64 v3, .int .i64 v4, .int .i64 v5, .int .i64 v6, .int .i64 v7] 24)
  have rPa17 := block_alloc rP15 (.cells #[.int .i64 k2, .string hl2, .int .i64 hn2, .int .i64 v0, .int .i64 v1, .int .i64 v2, .int .i64 v3, .int .i64 v4, .int .i64 v5, .int .i64 v6, .int .i64 v7] 24)
  have rAa17 := block_alloc rA16 (.cells #[.int .i64 k2, .string hl2, .int .i64 hn2, .int .i64 v0, .int .i64 v1, .int .i64 v2, .int .i64 v3, .int .i64 v4, .int .i64 v5, .int .i64 v6, .int .i64 v7] 24)
  have rB17 := heap_alloc_new w7 (.cells #[.int .i64 k2, .string hl2, .int .i64 hn2, .int .i64 v0, .int .i64 v1, .int .i64 v2, .int .i64 v3, .int .i64 v4, .int .i64 v5, .int .i64 v6, .int .i64 v7] 24)
  have hka17 := hkc7.alloc (.cells #[.int .i64 k2, .string hl2, .int .i64 hn2, .int .i64 v0, .int .i64 v1, .int .i64 v2, .int .i64 v3, .int .i64 v4, .int .i64 v5, .int .i64 v6, .int .i64 v7] 24)
  obtain ⟨cH0, cH1, cH2, cH3, cH4, cH5, cH6, cH7, cH8, cH9, cH10⟩ := host_cells rHa17
  obtain ⟨cP0, cP1, cP2, cP3, cP4, cP5, cP6, cP7, cP8, cP9, cP10⟩ := host_cells rPa17
  obtain ⟨cA0, cA1, cA2, cA3, cA4, cA5, cA6, cA7, cA8, cA9, cA10⟩ := host_cells rAa17
  obtain ⟨cB0, cB1, cB2, cB3, cB4, cB5, cB6, cB7, cB8, cB9, cB10⟩ := host_cells rB17
  go_wp2_with fail
  refine (cN (w7.alloc (.cells #[.int .i64 k2, .string hl2, .int .i64 hn2, .int .i64 v0, .int .i64 v1, .int .i64 v2, .int .i64 v3, .int .i64 v4, .int .i64 v5, .int .i64 v6, .int .i64 v7] 24)) hka17.good).mono ?_
  rintro e w8 ⟨rfl, hb8⟩
  have hkc8 := hka17.step hb8
  clear cH0 cH1 cH2 cH3 cH4 cH5 cH6 cH7 cH8 cH9 cH10 cP0 cP1 cP2 cP3 cP4 cP5 cP6 cP7 cP8 cP9 cP10 cA0 cA1 cA2 cA3 cA4 cA5 cA6 cA7 cA8 cA9 cA10 cB0 cB1 cB2 cB3 cB4 cB5 cB6 cB7 cB8 cB9 cB10
  have rH18 := block_below rHa17 hb8 (lt_of_block rHa17)
  have rP19 := block_below rPa17 hb8 (lt_of_block rPa17)
  have rA20 := block_below rAa17 hb8 (lt_of_block rAa17)
  have rB21 := block_below rB17 hb8 (lt_of_block rB17)
  obtain ⟨cH0, cH1, cH2, cH3, cH4, cH5, cH6, cH7, cH8, cH9, cH10⟩ := host_cells rH18
  obtain ⟨cP0, cP1, cP2, cP3, cP4, cP5, cP6, cP7, cP8, cP9, cP10⟩ := host_cells rP19
  obtain ⟨cA0, cA1, cA2, cA3, cA4, cA5, cA6, cA7, cA8, cA9, cA10⟩ := host_cells rA20
  obtain ⟨cB0, cB1, cB2, cB3, cB4, cB5, cB6, cB7, cB8, cB9, cB10⟩ := host_cells rB21
  go_wp2
  go_ret
  exact ⟨rfl, hkc8.below⟩

set_option maxHeartbeats 8000000 in
set_option maxRecDepth 100000 in
theorem back_n_n (s : ByteArray) (k : Int) (hl : ByteArray) (hn z0 z1 z2 z3 z4 z5 z6 z7 : Int) (hs : s.size ≤ 300) (hhl : hl.size ≤ 300) (w : World) (hG : Good w)
    (cH : ∀ w1, Good w1 → Calls Tryd.prog 9 #[.agg #[.int .i64 k, .string hl, .int .i64 hn, .int .i64 z0, .int .i64 z1, .int .i64 z2, .int .i64 z3, .int .i64 z4, .int .i64 z5, .int .i64 z6, .int .i64 z7]] w1 fun e w' => e = .returned (.string ⟨#[]⟩) ∧ Below w1.heap.size w1 w')
    (cP : ∀ w1, Good w1 → Calls Tryd.prog 10 #[.string ⟨#[]⟩] w1 fun e w' => e = .returned (.tuple #[.agg #[.int .i64 0, .string ⟨#[]⟩, .int .i64 0, .int .i64 0, .int .i64 0, .int .i64 0, .int .i64 0, .int .i64 0, .int .i64 0, .int .i64 0, .int .i64 0], .bool false]) ∧ Below w1.heap.size w1 w')
    (cM : ∀ w1, Good w1 → Calls Tryd.prog 11 #[.agg #[.int .i64 k, .string hl, .int .i64 hn, .int .i64 z0, .int .i64 z1, .int .i64 z2, .int .i64 z3, .int .i64 z4, .int .i64 z5, .int .i64 z6, .int .i64 z7]] w1 fun e w' => e = .returned (.bool false) ∧ Below w1.heap.size w1 w')
    (cA : ∀ w1, Good w1 → Calls Tryd.prog 10 #[.string s] w1 fun e w' => e = .returned (.tuple #[.agg #[.int .i64 0, .string ⟨#[]⟩, .int .i64 0, .int .i64 0, .int .i64 0, .int .i64 0, .int .i64 0, .int .i64 0, .int .i64 0, .int .i64 0, .int .i64 0], .bool false]) ∧ Below w1.heap.size w1 w')
    (cS : ∀ w1, Good w1 → Calls Tryd.prog 9 #[.agg #[.int .i64 0, .string ⟨#[]⟩, .int .i64 0, .int .i64 0, .int .i64 0, .int .i64 0, .int .i64 0, .int .i64 0, .int .i64 0, .int .i64 0, .int .i64 0]] w1 fun e w' => e = .returned (.string ⟨#[]⟩) ∧ Below w1.heap.size w1 w')
    (cB : ∀ w1, Good w1 → Calls Tryd.prog 10 #[.string ⟨#[]⟩] w1 fun e w' => e = .returned (.tuple #[.agg #[.int .i64 0, .string ⟨#[]⟩, .int .i64 0, .int .i64 0, .int .i64 0, .int .i64 0, .int .i64 0, .int .i64 0, .int .i64 0, .int .i64 0, .int .i64 0], .bool false]) ∧ Below w1.heap.size w1 w') :
    Calls Tryd.prog 3 #[.string s, .agg #[.int .i64 k, .string hl, .int .i64 hn, .int .i64 z0, .int .i64 z1, .int .i64 z2, .int .i64 z3, .int .i64 z4, .int .i64 z5, .int .i64 z6, .int .i64 z7]] w fun e w' => e = .returned (.bool true) ∧ Below w.heap.size w w' := by
  have d1 : decide ((300 : Int) < (s.size : Int)) = false := decide_eq_false (by omega)
  have d2 : decide ((300 : Int) < (hl.size : Int)) = false := decide_eq_false (by omega)
  have hk0 := Ok.refl hG
  go_enter Tryd.func3, Tryd.ntmps3
  have rH1 := heap_alloc_new w (.cells #[.int .i64 k, .string hl, .int .i64 hn, .int .i64 z0, .int .i64 z1, .int .i64 z2, .int .i64 z3, .int .i64 z4, .int .i64 z5, .int .i64 z6, .int .i64 z7] 24)
  have hka1 := hk0.alloc (.cells #[.int .i64 k, .string hl, .int .i64 hn, .int .i64 z0, .int .i64 z1, .int .i64 z2, .int .i64 z3, .int .i64 z4, .int .i64 z5, .int .i64 z6, .int .i64 z7] 24)
  obtain ⟨cH0, cH1, cH2, cH3, cH4, cH5, cH6, cH7, cH8, cH9, cH10⟩ := host_cells rH1
  go_wp2_with fail
  refine (awake7 (w.alloc (.cells #[.int .i64 k, .string hl, .int .i64 hn, .int .i64 z0, .int .i64 z1, .int .i64 z2, .int .i64 z3, .int .i64 z4, .int .i64 z5, .int .i64 z6, .int .i64 z7] 24)) hka1.good).mono ?_
  rintro e w1 ⟨rfl, hb1⟩
  have hkc1 := hka1.step hb1
  clear cH0 cH1 cH2 cH3 cH4 cH5 cH6 cH7 cH8 cH9 cH10
  have rH2 := block_below rH1 hb1 (lt_of_block rH1)
  obtain ⟨cH0, cH1, cH2, cH3, cH4, cH5, cH6, cH7, cH8, cH9, cH10⟩ := host_cells rH2
  go_wp2_with fail
  refine (cH w1 hkc1.good).mono ?_
  rintro e w2 ⟨rfl, hb2⟩
  have hkc2 := hkc1.step hb2
  clear cH0 cH1 cH2 cH3 cH4 cH5 cH6 cH7 cH8 cH9 cH10
  have rH3 := block_below rH2 hb2 (lt_of_block rH2)
  obtain ⟨cH0, cH1, cH2, cH3, cH4, cH5, cH6, cH7, cH8, cH9, cH10⟩ := host_cells rH3
  go_wp2_with fail
  refine (cP w2 hkc2.good).mono ?_
  rintro e w3 ⟨rfl, hb3⟩
  have hkc3 := hkc2.step hb3
  clear cH0 cH1 cH2 cH3 cH4 cH5 cH6 cH7 cH8 cH9 cH10
  have rH4 := block_below rH3 hb3 (lt_of_block rH3)
  have rHa5 := block_alloc rH4 (.cells #[.int .i64 0, .string ⟨#[]⟩, .int .i64 0, .int .i64 0, .int .i64 0, .int .i64 0, .int .i64 0, .int .i64 0, .int .i64 0, .int .i64 0, .int .i64 0] 24)
  have rP5 := heap_alloc_new w3 (.cells #[.int .i64 0, .string ⟨#[]⟩, .int .i64 0, .int .i64 0, .int .i64 0, .int .i64 0, .int .i64 0, .int .i64 0, .int .i64 0, .int .i64 0, .int .i64 0] 24)
  have hka5 := hkc3.alloc (.cells #[.int .i64 0, .string ⟨#[]⟩, .int .i64 0, .int .i64 0, .int .i64 0, .int .i64 0, .int .i64 0, .int .i64 0, .int .i64 0, .int .i64 0, .int .i64 0] 24)
  obtain ⟨cH0, cH1, cH2, cH3, cH4, cH5, cH6, cH7, cH8, cH9, cH10⟩ := host_cells rHa5
  obtain ⟨cP0, cP1, cP2, cP3, cP4, cP5, cP6, cP7, cP8, cP9, cP10⟩ := host_cells rP5
  go_wp2_with fail
  refine (cM (w3.alloc (.cells #[.int .i64 0, .string ⟨#[]⟩, .int .i64 0, .int .i64 0, .int .i64 0, .int .i64 0, .int .i64 0, .int .i64 0, .int .i64 0, .int .i64 0, .int .i64 0] 24)) hka5.good).mono ?_
  rintro e w4 ⟨rfl, hb4⟩
  have hkc4 := hka5.step hb4
  clear cH0 cH1 cH2 cH3 cH4 cH5 cH6 cH7 cH8 cH9 cH10 cP0 cP1 cP2 cP3 cP4 cP5 cP6 cP7 cP8 cP9 cP10
  have rH6 := block_below rHa5 hb4 (lt_of_block rHa5)
  have rP7 := block_below rP5 hb4 (lt_of_block rP5)
  obtain ⟨cH0, cH1, cH2, cH3, cH4, cH5, cH6, cH7, cH8, cH9, cH10⟩ := host_cells rH6
  obtain ⟨cP0, cP1, cP2, cP3, cP4, cP5, cP6, cP7, cP8, cP9, cP10⟩ := host_cells rP7
  go_wp2_with fail
  refine (cA w4 hkc4.good).mono ?_
  rintro e w5 ⟨rfl, hb5⟩
  have hkc5 := hkc4.step hb5
  clear cH0 cH1 cH2 cH3 cH4 cH5 cH6 cH7 cH8 cH9 cH10 cP0 cP1 cP2 cP3 cP4 cP5 cP6 cP7 cP8 cP9 cP10
  have rH8 := block_below rH6 hb5 (lt_of_block rH6)
  have rP9 := block_below rP7 hb5 (lt_of_block rP7)
  have rHa10 := block_alloc rH8 (.cells #[.int .i64 0, .string ⟨#[]⟩, .int .i64 0, .int .i64 0, .int .i64 0, .int .i64 0, .int .i64 0, .int .i64 0, .int .i64 0, .int .i64 0, .int .i64 0] 24)
  have rPa10 := block_alloc rP9 (.cells #[.int .i64 0, .string ⟨#[]⟩, .int .i64 0, .int .i64 0, .int .i64 0, .int .i64 0, .int .i64 0, .int .i64 0, .int .i64 0, .int .i64 0, .int .i64 0] 24)
  have rA10 := heap_alloc_new w5 (.cells #[.int .i64 0, .string ⟨#[]⟩, .int .i64 0, .int .i64 0, .int .i64 0, .int .i64 0, .int .i64 0, .int .i64 0, .int .i64 0, .int .i64 0, .int .i64 0] 24)
  have hka10 := hkc5.alloc (.cells #[.int .i64 0, .string ⟨#[]⟩, .int .i64 0, .int .i64 0, .int .i64 0, .int .i64 0, .int .i64 0, .int .i64 0, .int .i64 0, .int .i64 0, .int .i64 0] 24)
  obtain ⟨cH0, cH1, cH2, cH3, cH4, cH5, cH6, cH7, cH8, cH9, cH10⟩ := host_cells rHa10
  obtain ⟨cP0, cP1, cP2, cP3, cP4, cP5, cP6, cP7, cP8, cP9, cP10⟩ := host_cells rPa10
  obtain ⟨cA0, cA1, cA2, cA3, cA4, cA5, cA6, cA7, cA8, cA9, cA10⟩ := host_cells rA10
  go_wp2_with fail
  refine (cS (w5.alloc (.cells #[.int .i64 0, .string ⟨#[]⟩, .int .i64 0, .int .i64 0, .int .i64 0, .int .i64 0, .int .i64 0, .int .i64 0, .int .i64 0, .int .i64 0, .int .i64 0] 24)) hka10.good).mono ?_
  rintro e w6 ⟨rfl, hb6⟩
  have hkc6 := hka10.step hb6
  clear cH0 cH1 cH2 cH3 cH4 cH5 cH6 cH7 cH8 cH9 cH10 cP0 cP1 cP2 cP3 cP4 cP5 cP6 cP7 cP8 cP9 cP10 cA0 cA1 cA2 cA3 cA4 cA5 cA6 cA7 cA8 cA9 cA10
  have rH11 := block_below rHa10 hb6 (lt_of_block rHa10)
  have rP12 := block_below rPa10 hb6 (lt_of_block rPa10)
  have rA13 := block_below rA10 hb6 (lt_of_block rA10)
  obtain ⟨cH0, cH1, cH2, cH3, cH4, cH5, cH6, cH7, cH8, cH9, cH10⟩ := host_cells rH11
  obtain ⟨cP0, cP1, cP2, cP3, cP4, cP5, cP6, cP7, cP8, cP9, cP10⟩ := host_cells rP12
  obtain ⟨cA0, cA1, cA2, cA3, cA4, cA5, cA6, cA7, cA8, cA9, cA10⟩ := host_cells rA13
  go_wp2_with fail
  refine (cB w6 hkc6.good).mono ?_
  rintro e w7 ⟨rfl, hb7⟩
  have hkc7 := hkc6.step hb7
  clear cH0 cH1 cH2 cH3 cH4 cH5 cH6 cH7 cH8 cH9 cH10 cP0 cP1 cP2 cP3 cP4 cP5 cP6 cP7 cP8 cP9 cP10 cA0 cA1 cA2 cA3 cA4 cA5 cA6 cA7 cA8 cA9 cA10
  have rH14 := block_below rH11 hb7 (lt_of_block rH11)
  have rP15 := block_below rP12 hb7 (lt_of_block rP12)
  have rA16 := block_below rA13 hb7 (lt_of_block rA13)
  have rHa17 := block_alloc rH14 (.cells #[.int .i64 0, .string ⟨#[]⟩, .int .i64 0, .int .i64 0, .int .i64 0, .int .i64 0, .int .i64 0, .int .i64 0, .int .i64 0, .int .i64 0, .int .i64 0] 24)
  have rPa17 := block_alloc rP15 (.cells #[.int .i64 0, .string ⟨#[]⟩, .int .i64 0, .int .i64 0, .int .i64 0, .int .i64 0, .int .i64 0, .int .i64 0, .int .i64 0, .int .i64 0, .int .i64 0] 24)
  have rAa17 := block_alloc rA16 (.cells #[.int .i64 0, .string ⟨#[]⟩, .int .i64 0, .int .i64 0, .int .i64 0, .int .i64 0, .int .i64 0, .int .i64 0, .int .i64 0, .int .i64 0, .int .i64 0] 24)
  have rB17 := heap_alloc_new w7 (.cells #[.int .i64 0, .string ⟨#[]⟩, .int .i64 0, .int .i64 0, .int .i64 0, .int .i64 0, .int .i64 0, .int .i64 0, .int .i64 0, .int .i64 0, .int .i64 0] 24)
  have hka17 := hkc7.alloc (.cells #[.int .i64 0, .string ⟨#[]⟩, .int .i64 0, .int .i64 0, .int .i64 0, .int .i64 0, .int .i64 0, .int .i64 0, .int .i64 0, .int .i64 0, .int .i64 0] 24)
  obtain ⟨cH0, cH1, cH2, cH3, cH4, cH5, cH6, cH7, cH8, cH9, cH10⟩ := host_cells rHa17
  obtain ⟨cP0, cP1, cP2, cP3, cP4, cP5, cP6, cP7, cP8, cP9, cP10⟩ := host_cells rPa17
  obtain ⟨cA0, cA1, cA2, cA3, cA4, cA5, cA6, cA7, cA8, cA9, cA10⟩ := host_cells rAa17
  obtain ⟨cB0, cB1, cB2, cB3, cB4, cB5, cB6, cB7, cB8, cB9, cB10⟩ := host_cells rB17
  go_wp2
  go_ret
  exact ⟨rfl, hka17.below⟩

theorem law_HostBack (s : ByteArray) (h : HostT) (_hs : s.size ≤ 140737488351232) (_hh : h.Wf) (w : World) (hG : Good w) :
    Calls Tryd.prog 3 #[.string s, h.val] w fun e w' => e = .returned (.bool true) ∧ Below w.heap.size w w' := by
  obtain ⟨k, hl, hn, z0, z1, z2, z3, z4, z5, z6, z7⟩ := h
  by_cases hs : s.size ≤ 300
  · by_cases hhl : hl.size ≤ 300
    · have cM := fun w1 (hG : Good w1) => host_May_any ⟨k, hl, hn, z0, z1, z2, z3, z4, z5, z6, z7⟩ (show hl.size ≤ _ by omega) w1 hG
      have cH := fun w1 (hG : Good w1) => host_Show_any ⟨k, hl, hn, z0, z1, z2, z3, z4, z5, z6, z7⟩ (show hl.size ≤ _ by omega) w1 hG
      have cA := fun w1 (hG : Good w1) => host_Parse_any s (by omega) w1 hG
      have cZ := fun w1 (hG : Good w1) => host_Show_any zeroT (by decide) w1 hG
      have cE := fun w1 (hG : Good w1) => host_Parse_any ⟨#[]⟩ (by decide) w1 hG
      have e0 : (⟨#[]⟩ : ByteArray).data.toList = [] := rfl
      have ez : showH zeroT = [] := by decide +kernel
      have eq0 : (⟨([] : List UInt8).toArray⟩ : ByteArray) = ⟨#[]⟩ := rfl
      rw [e0] at cE
      simp only [parse_nil] at cE
      simp only [ez, eq0] at cZ
      have hneT : ∀ T : Som, T.ok = true → (⟨T.text.toArray⟩ : ByteArray).toList.isEmpty = false := fun T hT => by
        rw [ba_toList, mk_toList]
        cases h : T.text with
        | nil => exact absurd h (text_ne hT)
        | cons a t => rfl
      have hsz : ∀ T : Som, T.ok = true → (⟨T.text.toArray⟩ : ByteArray).size ≤ 1000000 := fun T hT => by
        rw [size_list, mk_toList]; exact text_le hT
      cases ho : ofH ⟨k, hl, hn, z0, z1, z2, z3, z4, z5, z6, z7⟩ with
      | some T =>
        obtain ⟨hT, hok⟩ := ofH_some ho
        have cP := fun w1 (hG : Good w1) => host_Parse_any ⟨T.text.toArray⟩ (hsz T hok) w1 hG
        have e1 : showH ⟨k, hl, hn, z0, z1, z2, z3, z4, z5, z6, z7⟩ = T.text := by rw [hT, show_ok hok]
        simp only [mk_toList, parse_text hok, ← hT] at cP
        simp only [ho, Option.isSome_some] at cM
        simp only [e1] at cH
        rcases parse_is s.data.toList with hz | ⟨U, hU, hz⟩
        · simp only [hz] at cA
          unfold HostT.val hV zeroT at *
          dsimp only at cH cP cM cA cZ cE ⊢
          exact back_y_n s k hl hn z0 z1 z2 z3 z4 z5 z6 z7 hs hhl _ (hneT T hok) w hG cH cP cM cA cZ cE
        · simp only [hz] at cA
          have cS := fun w1 (hG : Good w1) => host_Show_any U.host (host_le hU) w1 hG
          have cB := fun w1 (hG : Good w1) => host_Parse_any ⟨U.text.toArray⟩ (hsz U hU) w1 hG
          have cN := fun w1 (hG : Good w1) => host_May_any U.host (host_le hU) w1 hG
          simp only [show_ok hU] at cS
          simp only [mk_toList, parse_text hU] at cB
          simp only [ofH_host hU, Option.isSome_some] at cN
          generalize U.host = u at *
          obtain ⟨k2, hl2, hn2, v0, v1, v2, v3, v4, v5, v6, v7⟩ := u
          unfold HostT.val hV zeroT at *
          dsimp only at cH cP cM cA cS cB cN ⊢
          exact back_y_y s k hl hn z0 z1 z2 z3 z4 z5 z6 z7 hs hhl _ (hneT T hok) k2 hl2 hn2 v0 v1 v2 v3 v4 v5 v6 v7 _ w hG cH cP cM cA cS cB cN
      | none =>
        have e1 : showH ⟨k, hl, hn, z0, z1, z2, z3, z4, z5, z6, z7⟩ = [] := show_no ho
        simp only [ho, Option.isSome_none] at cM
        simp only [e1, eq0] at cH
        rcases parse_is s.data.toList with hz | ⟨U, hU, hz⟩
        · simp only [hz] at cA
          unfold HostT.val hV zeroT at *
          dsimp only at cH cM cA cZ cE ⊢
          exact back_n_n s k hl hn z0 z1 z2 z3 z4 z5 z6 z7 hs hhl w hG cH cE cM cA cZ cE
        · simp only [hz] at cA
          have cS := fun w1 (hG : Good w1) => host_Show_any U.host (host_le hU) w1 hG
          have cB := fun w1 (hG : Good w1) => host_Parse_any ⟨U.text.toArray⟩ (hsz U hU) w1 hG
          have cN := fun w1 (hG : Good w1) => host_May_any U.host (host_le hU) w1 hG
          simp only [show_ok hU] at cS
          simp only [mk_toList, parse_text hU] at cB
          simp only [ofH_host hU, Option.isSome_some] at cN
          generalize U.host = u at *
          obtain ⟨k2, hl2, hn2, v0, v1, v2, v3, v4, v5, v6, v7⟩ := u
          unfold HostT.val hV zeroT at *
          dsimp only at cH cM cA cS cB cN cE ⊢
          exact back_n_y s k hl hn z0 z1 z2 z3 z4 z5 z6 z7 hs hhl k2 hl2 hn2 v0 v1 v2 v3 v4 v5 v6 v7 _ w hG cH cE cM cA cS cB cN
    · unfold HostT.val hV
      dsimp only
      have d1 : decide ((300 : Int) < (s.size : Int)) = false := decide_eq_false (by omega)
      have d2 : decide ((300 : Int) < (hl.size : Int)) = true := decide_eq_true (by omega)
      have hk0 := Ok.refl hG
      go_enter Tryd.func3, Tryd.ntmps3
      have rH1 := heap_alloc_new w (.cells #[.int .i64 k, .string hl, .int .i64 hn, .int .i64 z0, .int .i64 z1, .int .i64 z2, .int .i64 z3, .int .i64 z4, .int .i64 z5, .int .i64 z6, .int .i64 z7] 24)
      have hka1 := hk0.alloc (.cells #[.int .i64 k, .string hl, .int .i64 hn, .int .i64 z0, .int .i64 z1, .int .i64 z2, .int .i64 z3, .int .i64 z4, .int .i64 z5, .int .i64 z6, .int .i64 z7] 24)
      obtain ⟨cH0, cH1, cH2, cH3, cH4, cH5, cH6, cH7, cH8, cH9, cH10⟩ := host_cells rH1
      go_wp2_with fail
      refine (awake7 (w.alloc (.cells #[.int .i64 k, .string hl, .int .i64 hn, .int .i64 z0, .int .i64 z1, .int .i64 z2, .int .i64 z3, .int .i64 z4, .int .i64 z5, .int .i64 z6, .int .i64 z7] 24)) hka1.good).mono ?_
      rintro e w1 ⟨rfl, hb1⟩
      have hkc1 := hka1.step hb1
      clear cH0 cH1 cH2 cH3 cH4 cH5 cH6 cH7 cH8 cH9 cH10
      have rH2 := block_below rH1 hb1 (lt_of_block rH1)
      obtain ⟨cH0, cH1, cH2, cH3, cH4, cH5, cH6, cH7, cH8, cH9, cH10⟩ := host_cells rH2
      go_wp2
      go_ret
      exact ⟨rfl, hkc1.below⟩
  · unfold HostT.val hV
    dsimp only
    have d1 : decide ((300 : Int) < (s.size : Int)) = true := decide_eq_true (by omega)
    have hk0 := Ok.refl hG
    go_enter Tryd.func3, Tryd.ntmps3
    have rH1 := heap_alloc_new w (.cells #[.int .i64 k, .string hl, .int .i64 hn, .int .i64 z0, .int .i64 z1, .int .i64 z2, .int .i64 z3, .int .i64 z4, .int .i64 z5, .int .i64 z6, .int .i64 z7] 24)
    have hka1 := hk0.alloc (.cells #[.int .i64 k, .string hl, .int .i64 hn, .int .i64 z0, .int .i64 z1, .int .i64 z2, .int .i64 z3, .int .i64 z4, .int .i64 z5, .int .i64 z6, .int .i64 z7] 24)
    obtain ⟨cH0, cH1, cH2, cH3, cH4, cH5, cH6, cH7, cH8, cH9, cH10⟩ := host_cells rH1
    go_wp2_with fail
    refine (awake7 (w.alloc (.cells #[.int .i64 k, .string hl, .int .i64 hn, .int .i64 z0, .int .i64 z1, .int .i64 z2, .int .i64 z3, .int .i64 z4, .int .i64 z5, .int .i64 z6, .int .i64 z7] 24)) hka1.good).mono ?_
    rintro e w1 ⟨rfl, hb1⟩
    have hkc1 := hka1.step hb1
    clear cH0 cH1 cH2 cH3 cH4 cH5 cH6 cH7 cH8 cH9 cH10
    have rH2 := block_below rH1 hb1 (lt_of_block rH1)
    obtain ⟨cH0, cH1, cH2, cH3, cH4, cH5, cH6, cH7, cH8, cH9, cH10⟩ := host_cells rH2
    go_wp2
    go_ret
    exact ⟨rfl, hkc1.below⟩

end Go.Proofs.YtcpjonglfnakpaaDoor
