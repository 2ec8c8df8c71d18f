/- The law HostLocal, walked over the contracts. -/
import Derived.Test.YtcpjonglfnakpaaDoorLaw7
import Derived.Test.YtcpjonglfnakpaaDoorMH
namespace Go.Proofs.YtcpjonglfnakpaaDoor
open Go.RowKit Go.Proofs.YtcpjonglfnakpaaDoorW.PrintWords

set_option maxHeartbeats 8000000 in
set_option maxRecDepth 100000 in
theorem local_none (s : ByteArray) (hs : s.size ≤ 80) (w : World) (hG : Good w) (cA : ∀ w1, Good w1 → Calls Tryd.prog 10 #[.string s] w1 fun e w' => e = .returned (.tuple #[.agg #[.int .i64 0, .string ⟨#[]⟩, .int .i64 0, .int .i64 0, .int .i64 0, .int .i64 0, .int .i64 0, .int .i64 0, .int .i64 0, .int .i64 0, .int .i64 0], .bool false]) ∧ Below w1.heap.size w1 w') :
    Calls Tryd.prog 7 #[.string s] w fun e w' => e = .returned (.bool true) ∧ Below w.heap.size w w' := by
  have hd : decide ((80 : Int) < (s.size : Int)) = false := decide_eq_false (by omega)
  have hk0 := Ok.refl hG
  go_enter Tryd.func7, Tryd.ntmps7
  go_wp2_with fail
  refine (awake7 w hk0.good).mono ?_
  rintro e w1 ⟨rfl, hb1⟩
  have hkc1 := hk0.step hb1
  go_wp2_with fail
  refine (cA w1 hkc1.good).mono ?_
  rintro e w2 ⟨rfl, hb2⟩
  have hkc2 := hkc1.step hb2
  have rA1 := heap_alloc_new w2 (.cells #[.int .i64 0, .string ⟨#[]⟩, .int .i64 0, .int .i64 0, .int .i64 0, .int .i64 0, .int .i64 0, .int .i64 0, .int .i64 0, .int .i64 0, .int .i64 0] 24)
  have hka1 := hkc2.alloc (.cells #[.int .i64 0, .string ⟨#[]⟩, .int .i64 0, .int .i64 0, .int .i64 0, .int .i64 0, .int .i64 0, .int .i64 0, .int .i64 0, .int .i64 0, .int .i64 0] 24)
  obtain ⟨cA0, cA1, cA2, cA3, cA4, cA5, cA6, cA7, cA8, cA9, cA10⟩ := host_cells rA1
  go_wp2
  go_ret
  exact ⟨rfl, hka1.below⟩

set_option maxHeartbeats 8000000 in
set_option maxRecDepth 100000 in
theorem local_oth (s : ByteArray) (hs : s.size ≤ 80) (k : Int) (hl : ByteArray) (hn z0 z1 z2 z3 z4 z5 z6 z7 : Int) (q : (k != 1) = true) (w : World) (hG : Good w) (cA : ∀ w1, Good w1 → Calls Tryd.prog 10 #[.string s] w1 fun e w' => e = .returned (.tuple #[.agg #[.int .i64 k, .string hl, .int .i64 hn, .int .i64 z0, .int .i64 z1, .int .i64 z2, .int .i64 z3, .int .i64 z4, .int .i64 z5, .int .i64 z6, .int .i64 z7], .bool true]) ∧ Below w1.heap.size w1 w') :
    Calls Tryd.prog 7 #[.string s] w fun e w' => e = .returned (.bool true) ∧ Below w.heap.size w w' := by
  have hd : decide ((80 : Int) < (s.size : Int)) = false := decide_eq_false (by omega)
  have hk0 := Ok.refl hG
  go_enter Tryd.func7, Tryd.ntmps7
  go_wp2_with fail
  refine (awake7 w hk0.good).mono ?_
  rintro e w1 ⟨rfl, hb1⟩
  have hkc1 := hk0.step hb1
  go_wp2_with fail
  refine (cA w1 hkc1.good).mono ?_
  rintro e w2 ⟨rfl, hb2⟩
  have hkc2 := hkc1.step hb2
  have rA1 := heap_alloc_new w2 (.cells #[.int .i64 k, .string hl, .int .i64 hn, .int .i64 z0, .int .i64 z1, .int .i64 z2, .int .i64 z3, .int .i64 z4, .int .i64 z5, .int .i64 z6, .int .i64 z7] 24)
  have hka1 := hkc2.alloc (.cells #[.int .i64 k, .string hl, .int .i64 hn, .int .i64 z0, .int .i64 z1, .int .i64 z2, .int .i64 z3, .int .i64 z4, .int .i64 z5, .int .i64 z6, .int .i64 z7] 24)
  obtain ⟨cA0, cA1, cA2, cA3, cA4, cA5, cA6, cA7, cA8, cA9, cA10⟩ := host_cells rA1
  go_wp2
  go_ret
  exact ⟨rfl, hka1.below⟩

set_option maxHeartbeats 8000000 in
set_option maxRecDepth 100000 in
theorem local_dom (s : ByteArray) (hs : s.size ≤ 80) (D0 D D2 : ByteArray) (w : World) (hG : Good w) (cA : ∀ w1, Good w1 → Calls Tryd.prog 10 #[.string s] w1 fun e w' => e = .returned (.tuple #[.agg #[.int .i64 1, .string D0, .int .i64 0, .int .i64 0, .int .i64 0, .int .i64 0, .int .i64 0, .int .i64 0, .int .i64 0, .int .i64 0, .int .i64 0], .bool true]) ∧ Below w1.heap.size w1 w')
    (cB : ∀ w1, Good w1 → Calls Tryd.prog 10 #[.string (s ++ ⟨#[46, 108, 111, 99, 97, 108, 104, 111, 115, 116]⟩)] w1 fun e w' => e = .returned (.tuple #[.agg #[.int .i64 1, .string D, .int .i64 0, .int .i64 0, .int .i64 0, .int .i64 0, .int .i64 0, .int .i64 0, .int .i64 0, .int .i64 0, .int .i64 0], .bool true]) ∧ Below w1.heap.size w1 w')
    (cC : ∀ w1, Good w1 → Calls Tryd.prog 10 #[.string (s ++ ⟨#[46, 108, 111, 99, 97, 108, 104, 111, 115, 116, 120]⟩)] w1 fun e w' => e = .returned (.tuple #[.agg #[.int .i64 1, .string D2, .int .i64 0, .int .i64 0, .int .i64 0, .int .i64 0, .int .i64 0, .int .i64 0, .int .i64 0, .int .i64 0, .int .i64 0], .bool true]) ∧ Below w1.heap.size w1 w')
    (cL : ∀ w1, Good w1 → Calls Tryd.prog 15 #[.agg #[.int .i64 1, .string D, .int .i64 0, .int .i64 0, .int .i64 0, .int .i64 0, .int .i64 0, .int .i64 0, .int .i64 0, .int .i64 0, .int .i64 0]] w1 fun e w' => e = .returned (.bool true) ∧ Below w1.heap.size w1 w')
    (cM : ∀ w1, Good w1 → Calls Tryd.prog 15 #[.agg #[.int .i64 1, .string D2, .int .i64 0, .int .i64 0, .int .i64 0, .int .i64 0, .int .i64 0, .int .i64 0, .int .i64 0, .int .i64 0, .int .i64 0]] w1 fun e w' => e = .returned (.bool false) ∧ Below w1.heap.size w1 w') :
    Calls Tryd.prog 7 #[.string s] w fun e w' => e = .returned (.bool true) ∧ Below w.heap.size w w' := by
  have hd : decide ((80 : Int) < (s.size : Int)) = false := decide_eq_false (by omega)
  have hk0 := Ok.refl hG
  go_enter Tryd.func7, Tryd.ntmps7
  go_wp2_with fail
  refine (awake7 w hk0.good).mono ?_
  rintro e w1 ⟨rfl, hb1⟩
  have hkc1 := hk0.step hb1
  go_wp2_with fail
  refine (cA w1 hkc1.good).mono ?_
  rintro e w2 ⟨rfl, hb2⟩
  have hkc2 := hkc1.step hb2
  have rA1 := heap_alloc_new w2 (.cells #[.int .i64 1, .string D0, .int .i64 0, .int .i64 0, .int .i64 0, .int .i64 0, .int .i64 0, .int .i64 0, .int .i64 0, .int .i64 0, .int .i64 0] 24)
  have hka1 := hkc2.alloc (.cells #[.int .i64 1, .string D0, .int .i64 0, .int .i64 0, .int .i64 0, .int .i64 0, .int .i64 0, .int .i64 0, .int .i64 0, .int .i64 0, .int .i64 0] 24)
  obtain ⟨cA0, cA1, cA2, cA3, cA4, cA5, cA6, cA7, cA8, cA9, cA10⟩ := host_cells rA1
  go_wp2_with fail
  refine (cB (w2.alloc (.cells #[.int .i64 1, .string D0, .int .i64 0, .int .i64 0, .int .i64 0, .int .i64 0, .int .i64 0, .int .i64 0, .int .i64 0, .int .i64 0, .int .i64 0] 24)) hka1.good).mono ?_
  rintro e w3 ⟨rfl, hb3⟩
  have hkc3 := hka1.step hb3
  clear cA0 cA1 cA2 cA3 cA4 cA5 cA6 cA7 cA8 cA9 cA10
  have rA2 := block_below rA1 hb3 (lt_of_block rA1)
  have rB3 := heap_alloc_new w3 (.cells #[.int .i64 1, .string D, .int .i64 0, .int .i64 0, .int .i64 0, .int .i64 0, .int .i64 0, .int .i64 0, .int .i64 0, .int .i64 0, .int .i64 0] 24)
  have hka3 := hkc3.alloc (.cells #[.int .i64 1, .string D, .int .i64 0, .int .i64 0, .int .i64 0, .int .i64 0, .int .i64 0, .int .i64 0, .int .i64 0, .int .i64 0, .int .i64 0] 24)
  obtain ⟨cB0, cB1, cB2, cB3, cB4, cB5, cB6, cB7, cB8, cB9, cB10⟩ := host_cells rB3
  go_wp2_with fail
  refine (cC (w3.alloc (.cells #[.int .i64 1, .string D, .int .i64 0, .int .i64 0, .int .i64 0, .int .i64 0, .int .i64 0, .int .i64 0, .int .i64 0, .int .i64 0, .int .i64 0] 24)) hka3.good).mono ?_
  rintro e w4 ⟨rfl, hb4⟩
  have hkc4 := hka3.step hb4
  clear cB0 cB1 cB2 cB3 cB4 cB5 cB6 cB7 cB8 cB9 cB10
  have rB4 := block_below rB3 hb4 (lt_of_block rB3)
  have rBa5 := block_alloc rB4 (.cells #[.int .i64 1, .string D2, .int .i64 0, .int .i64 0, .int .i64 0, .int .i64 0, .int .i64 0, .int .i64 0, .int .i64 0, .int .i64 0, .int .i64 0] 24)
  have rC5 := heap_alloc_new w4 (.cells #[.int .i64 1, .string D2, .int .i64 0, .int .i64 0, .int .i64 0, .int .i64 0, .int .i64 0, .int .i64 0, .int .i64 0, .int .i64 0, .int .i64 0] 24)
  have hka5 := hkc4.alloc (.cells #[.int .i64 1, .string D2, .int .i64 0, .int .i64 0, .int .i64 0, .int .i64 0, .int .i64 0, .int .i64 0, .int .i64 0, .int .i64 0, .int .i64 0] 24)
  obtain ⟨cB0, cB1, cB2, cB3, cB4, cB5, cB6, cB7, cB8, cB9, cB10⟩ := host_cells rBa5
  obtain ⟨cC0, cC1, cC2, cC3, cC4, cC5, cC6, cC7, cC8, cC9, cC10⟩ := host_cells rC5
  go_wp2_with fail
  refine (cL (w4.alloc (.cells #[.int .i64 1, .string D2, .int .i64 0, .int .i64 0, .int .i64 0, .int .i64 0, .int .i64 0, .int .i64 0, .int .i64 0, .int .i64 0, .int .i64 0] 24)) hka5.good).mono ?_
  rintro e w5 ⟨rfl, hb5⟩
  have hkc5 := hka5.step hb5
  clear cB0 cB1 cB2 cB3 cB4 cB5 cB6 cB7 cB8 cB9 cB10 cC0 cC1 cC2 cC3 cC4 cC5 cC6 cC7 cC8 cC9 cC10
  have rB6 := block_below rBa5 hb5 (lt_of_block rBa5)
  have rC7 := block_below rC5 hb5 (lt_of_block rC5)
  obtain ⟨cB0, cB1, cB2, cB3, cB4, cB5, cB6, cB7, cB8, cB9, cB10⟩ := host_cells rB6
  obtain ⟨cC0, cC1, cC2, cC3, cC4, cC5, cC6, cC7, cC8, cC9, cC10⟩ := host_cells rC7
  go_wp2_with fail
  refine (cM w5 hkc5.good).mono ?_
  rintro e w6 ⟨rfl, hb6⟩
  have hkc6 := hkc5.step hb6
  clear cB0 cB1 cB2 cB3 cB4 cB5 cB6 cB7 cB8 cB9 cB10 cC0 cC1 cC2 cC3 cC4 cC5 cC6 cC7 cC8 cC9 cC10
  have rB8 := block_below rB6 hb6 (lt_of_block rB6)
  have rC9 := block_below rC7 hb6 (lt_of_block rC7)
  go_wp2
  go_ret
  exact ⟨rfl, hkc6.below⟩

theorem law_HostLocal (s : ByteArray) (_hs : s.size ≤ 140737488351232) (w : World) (hG : Good w) :
    Calls Tryd.prog 7 #[.string s] w fun e w' => e = .returned (.bool true) ∧ Below w.heap.size w w' := by
  by_cases hl : s.size ≤ 80
  · have cA := fun w1 (hG : Good w1) => host_Parse_any s (by omega) w1 hG
    have hsz := size_list s
    have e1 : (s ++ ⟨#[46, 108, 111, 99, 97, 108, 104, 111, 115, 116]⟩ : ByteArray).data.toList = s.data.toList ++ 46 :: homeL := by simp [ByteArray.data_append, homeL]
    have e2 : (s ++ ⟨#[46, 108, 111, 99, 97, 108, 104, 111, 115, 116, 120]⟩ : ByteArray).data.toList = s.data.toList ++ 46 :: (homeL ++ [120]) := by simp [ByteArray.data_append, homeL]
    have cB := fun w1 (hG : Good w1) => host_Parse_any (s ++ ⟨#[46, 108, 111, 99, 97, 108, 104, 111, 115, 116]⟩) (by simp [ByteArray.size_append]; show s.size + 10 ≤ _; omega) w1 hG
    have cC := fun w1 (hG : Good w1) => host_Parse_any (s ++ ⟨#[46, 108, 111, 99, 97, 108, 104, 111, 115, 116, 120]⟩) (by simp [ByteArray.size_append]; show s.size + 11 ≤ _; omega) w1 hG
    simp only [e1] at cB
    simp only [e2] at cC
    generalize s.data.toList = l at *
    rcases parse_kinds l with hz | ⟨h, hk, hz⟩ | ⟨hp, _, hok, hz⟩
    · simp only [hz] at cA
      exact local_none s hl w hG cA
    · simp only [hz] at cA
      obtain ⟨k, hl', hn, z0, z1, z2, z3, z4, z5, z6, z7⟩ := h
      have q : (k != 1) = true := by rw [bne_iff_ne]; dsimp only at hk; omega
      exact local_oth s hl k hl' hn z0 z1 z2 z3 z4 z5 z6 z7 q w hG cA
    · obtain ⟨D, D2, a1, a2, b1, b2, d1, d2⟩ := local_yes (by omega) hp hok
      simp only [hz] at cA
      simp only [a1] at cB
      simp only [b1] at cC
      have cL := fun w1 (hG : Good w1) => host_Local_any (Som.dom D).host (show D.size ≤ _ by omega) w1 hG
      have cM := fun w1 (hG : Good w1) => host_Local_any (Som.dom D2).host (show D2.size ≤ _ by omega) w1 hG
      rw [a2] at cL
      rw [b2] at cM
      exact local_dom s hl _ D D2 w hG cA cB cC cL cM
  · have hd : decide ((80 : Int) < (s.size : Int)) = true := decide_eq_true (by omega)
    go_enter Tryd.func7, Tryd.ntmps7
    go_wp2_with fail
    refine (awake7 w hG).mono ?_
    rintro e w1 ⟨rfl, hb1⟩
    go_wp2
    go_ret
    exact ⟨rfl, hb1⟩

end Go.Proofs.YtcpjonglfnakpaaDoor
