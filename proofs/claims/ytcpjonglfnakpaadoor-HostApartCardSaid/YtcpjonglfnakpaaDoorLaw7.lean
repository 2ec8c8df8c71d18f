/- Hosts: what the laws lean on, and their example. -/
import Derived.Test.YtcpjonglfnakpaaDoorMH
import Derived.Test.YtcpjonglfnakpaaDoorMB
import Derived.OpenShut
namespace Go.Proofs.YtcpjonglfnakpaaDoor
open Go.RowKit Go.Proofs.YtcpjonglfnakpaaDoorW.PrintWords

theorem eight_cells {w : World} {g : Nat} {T : TypeId} {fr : Nat × Nat} {c0 c1 c2 c3 c4 c5 c6 c7 : Value} (h : w.heap[g]? = some (.cells #[c0, c1, c2, c3, c4, c5, c6, c7] T fr)) : w.cell? ⟨g, 0, none⟩ = some c0 ∧ w.cell? ⟨g, 1, none⟩ = some c1 ∧ w.cell? ⟨g, 2, none⟩ = some c2 ∧ w.cell? ⟨g, 3, none⟩ = some c3 ∧ w.cell? ⟨g, 4, none⟩ = some c4 ∧ w.cell? ⟨g, 5, none⟩ = some c5 ∧ w.cell? ⟨g, 6, none⟩ = some c6 ∧ w.cell? ⟨g, 7, none⟩ = some c7 := by
  refine ⟨?_, ?_, ?_, ?_, ?_, ?_, ?_, ?_⟩ <;> (rw [cell_of_row w g _ _ T fr h]; rfl)
theorem pa_ex : parseH [69, 88, 65, 77, 80, 76, 69, 46, 111, 114, 103] = (⟨1, ⟨#[101, 120, 97, 109, 112, 108, 101, 46, 111, 114, 103]⟩, 0, 0, 0, 0, 0, 0, 0, 0, 0⟩, true) := by decide +kernel
theorem pb_ex : parseH [91, 48, 58, 48, 58, 58, 49, 93] = (⟨3, ⟨#[]⟩, 0, 0, 0, 0, 0, 0, 0, 0, 1⟩, true) := by decide +kernel
theorem pc_ex : parseH [49, 46, 50, 46, 51] = (zeroT, false) := by decide +kernel
theorem show_ex7 : showH ⟨3, ⟨#[]⟩, 0, 0, 0, 0, 0, 0, 0, 0, 1⟩ = [91, 58, 58, 49, 93] := by decide +kernel
theorem local_b : localH ⟨3, ⟨#[]⟩, 0, 0, 0, 0, 0, 0, 0, 0, 1⟩ = true := by decide +kernel
theorem local_a : localH ⟨1, ⟨#[101, 120, 97, 109, 112, 108, 101, 46, 111, 114, 103]⟩, 0, 0, 0, 0, 0, 0, 0, 0, 0⟩ = false := by decide +kernel
theorem may_a : (ofH ⟨1, ⟨#[101, 120, 97, 109, 112, 108, 101, 46, 111, 114, 103]⟩, 0, 0, 0, 0, 0, 0, 0, 0, 0⟩).isSome = true := by decide +kernel

set_option maxHeartbeats 8000000 in
set_option maxRecDepth 100000 in
theorem awake7 (w : World) (hG : Good w) : Calls Tryd.prog 8 #[] w fun e w' => e = .returned (.bool true) ∧ Below w.heap.size w w' := by
  have cA := fun w1 (hG : Good w1) => host_Parse_any ⟨#[69, 88, 65, 77, 80, 76, 69, 46, 111, 114, 103]⟩ (by decide) w1 hG
  have cB := fun w1 (hG : Good w1) => host_Parse_any ⟨#[91, 48, 58, 48, 58, 58, 49, 93]⟩ (by decide) w1 hG
  have cC := fun w1 (hG : Good w1) => host_Parse_any ⟨#[49, 46, 50, 46, 51]⟩ (by decide) w1 hG
  have cS := fun w1 (hG : Good w1) => host_Show_any ⟨3, ⟨#[]⟩, 0, 0, 0, 0, 0, 0, 0, 0, 1⟩ (by decide) w1 hG
  have cL := fun w1 (hG : Good w1) => host_Local_any ⟨3, ⟨#[]⟩, 0, 0, 0, 0, 0, 0, 0, 0, 1⟩ (by decide) w1 hG
  have cM := fun w1 (hG : Good w1) => host_May_any ⟨1, ⟨#[101, 120, 97, 109, 112, 108, 101, 46, 111, 114, 103]⟩, 0, 0, 0, 0, 0, 0, 0, 0, 0⟩ (by decide) w1 hG
  have cN := fun w1 (hG : Good w1) => host_Local_any ⟨1, ⟨#[101, 120, 97, 109, 112, 108, 101, 46, 111, 114, 103]⟩, 0, 0, 0, 0, 0, 0, 0, 0, 0⟩ (by decide) w1 hG
  simp only [pa_ex, pb_ex, pc_ex, show_ex7, local_b, local_a, may_a] at cA cB cC cS cL cM cN
  have hE := fun w => eqHost 1 ⟨#[101, 120, 97, 109, 112, 108, 101, 46, 111, 114, 103]⟩ 0 0 0 0 0 0 0 0 0 1 ⟨#[101, 120, 97, 109, 112, 108, 101, 46, 111, 114, 103]⟩ 0 0 0 0 0 0 0 0 0 w
  simp only [beq_self_eq_true, Bool.and_true] at hE
  unfold zeroT at cC
  unfold HostT.val at *
  dsimp only at *
  unfold hV at *
  have hk0 := Ok.refl hG
  go_enter Tryd.func8, Tryd.ntmps8
  go_wp2_with fail
  refine (cA w hk0.good).mono ?_
  rintro e w1 ⟨rfl, hb1⟩
  have hkc1 := hk0.step hb1
  have rA1 := heap_alloc_new w1 (.cells #[.int .i64 1, .string ⟨#[101, 120, 97, 109, 112, 108, 101, 46, 111, 114, 103]⟩, .int .i64 0, .int .i64 0, .int .i64 0, .int .i64 0, .int .i64 0, .int .i64 0, .int .i64 0, .int .i64 0, .int .i64 0] 24)
  have hka1 := hkc1.alloc (.cells #[.int .i64 1, .string ⟨#[101, 120, 97, 109, 112, 108, 101, 46, 111, 114, 103]⟩, .int .i64 0, .int .i64 0, .int .i64 0, .int .i64 0, .int .i64 0, .int .i64 0, .int .i64 0, .int .i64 0, .int .i64 0] 24)
  go_wp2_with fail
  refine (cB (w1.alloc (.cells #[.int .i64 1, .string ⟨#[101, 120, 97, 109, 112, 108, 101, 46, 111, 114, 103]⟩, .int .i64 0, .int .i64 0, .int .i64 0, .int .i64 0, .int .i64 0, .int .i64 0, .int .i64 0, .int .i64 0, .int .i64 0] 24)) hka1.good).mono ?_
  rintro e w2 ⟨rfl, hb2⟩
  have hkc2 := hka1.step hb2
  have rA2 := block_below rA1 hb2 (lt_of_block rA1)
  have rAa3 := block_alloc rA2 (.cells #[.int .i64 3, .string ⟨#[]⟩, .int .i64 0, .int .i64 0, .int .i64 0, .int .i64 0, .int .i64 0, .int .i64 0, .int .i64 0, .int .i64 0, .int .i64 1] 24)
  have rB3 := heap_alloc_new w2 (.cells #[.int .i64 3, .string ⟨#[]⟩, .int .i64 0, .int .i64 0, .int .i64 0, .int .i64 0, .int .i64 0, .int .i64 0, .int .i64 0, .int .i64 0, .int .i64 1] 24)
  have hka3 := hkc2.alloc (.cells #[.int .i64 3, .string ⟨#[]⟩, .int .i64 0, .int .i64 0, .int .i64 0, .int .i64 0, .int .i64 0, .int .i64 0, .int .i64 0, .int .i64 0, .int .i64 1] 24)
  go_wp2_with fail
  refine (cC (w2.alloc (.cells #[.int .i64 3, .string ⟨#[]⟩, .int .i64 0, .int .i64 0, .int .i64 0, .int .i64 0, .int .i64 0, .int .i64 0, .int .i64 0, .int .i64 0, .int .i64 1] 24)) hka3.good).mono ?_
  rintro e w3 ⟨rfl, hb3⟩
  have hkc3 := hka3.step hb3
  have rA4 := block_below rAa3 hb3 (lt_of_block rAa3)
  have rB5 := block_below rB3 hb3 (lt_of_block rB3)
  have rAa6 := block_alloc rA4 (.cells #[.int .i64 0, .string ⟨#[]⟩, .int .i64 0, .int .i64 0, .int .i64 0, .int .i64 0, .int .i64 0, .int .i64 0, .int .i64 0, .int .i64 0, .int .i64 0] 24)
  have rBa6 := block_alloc rB5 (.cells #[.int .i64 0, .string ⟨#[]⟩, .int .i64 0, .int .i64 0, .int .i64 0, .int .i64 0, .int .i64 0, .int .i64 0, .int .i64 0, .int .i64 0, .int .i64 0] 24)
  have rC6 := heap_alloc_new w3 (.cells #[.int .i64 0, .string ⟨#[]⟩, .int .i64 0, .int .i64 0, .int .i64 0, .int .i64 0, .int .i64 0, .int .i64 0, .int .i64 0, .int .i64 0, .int .i64 0] 24)
  have hka6 := hkc3.alloc (.cells #[.int .i64 0, .string ⟨#[]⟩, .int .i64 0, .int .i64 0, .int .i64 0, .int .i64 0, .int .i64 0, .int .i64 0, .int .i64 0, .int .i64 0, .int .i64 0] 24)
  obtain ⟨cA0, cA1, cA2, cA3, cA4, cA5, cA6, cA7, cA8, cA9, cA10⟩ := host_cells rAa6
  obtain ⟨cB0, cB1, cB2, cB3, cB4, cB5, cB6, cB7, cB8, cB9, cB10⟩ := host_cells rBa6
  obtain ⟨cC0, cC1, cC2, cC3, cC4, cC5, cC6, cC7, cC8, cC9, cC10⟩ := host_cells rC6
  go_wp2_with fail
  refine (cS (w3.alloc (.cells #[.int .i64 0, .string ⟨#[]⟩, .int .i64 0, .int .i64 0, .int .i64 0, .int .i64 0, .int .i64 0, .int .i64 0, .int .i64 0, .int .i64 0, .int .i64 0] 24)) hka6.good).mono ?_
  rintro e w4 ⟨rfl, hb4⟩
  have hkc4 := hka6.step hb4
  clear cA0 cA1 cA2 cA3 cA4 cA5 cA6 cA7 cA8 cA9 cA10 cB0 cB1 cB2 cB3 cB4 cB5 cB6 cB7 cB8 cB9 cB10 cC0 cC1 cC2 cC3 cC4 cC5 cC6 cC7 cC8 cC9 cC10
  have rA7 := block_below rAa6 hb4 (lt_of_block rAa6)
  have rB8 := block_below rBa6 hb4 (lt_of_block rBa6)
  have rC9 := block_below rC6 hb4 (lt_of_block rC6)
  obtain ⟨cA0, cA1, cA2, cA3, cA4, cA5, cA6, cA7, cA8, cA9, cA10⟩ := host_cells rA7
  obtain ⟨cB0, cB1, cB2, cB3, cB4, cB5, cB6, cB7, cB8, cB9, cB10⟩ := host_cells rB8
  obtain ⟨cC0, cC1, cC2, cC3, cC4, cC5, cC6, cC7, cC8, cC9, cC10⟩ := host_cells rC9
  go_wp2_with fail
  refine (cL w4 hkc4.good).mono ?_
  rintro e w5 ⟨rfl, hb5⟩
  have hkc5 := hkc4.step hb5
  clear cA0 cA1 cA2 cA3 cA4 cA5 cA6 cA7 cA8 cA9 cA10 cB0 cB1 cB2 cB3 cB4 cB5 cB6 cB7 cB8 cB9 cB10 cC0 cC1 cC2 cC3 cC4 cC5 cC6 cC7 cC8 cC9 cC10
  have rA10 := block_below rA7 hb5 (lt_of_block rA7)
  have rB11 := block_below rB8 hb5 (lt_of_block rB8)
  have rC12 := block_below rC9 hb5 (lt_of_block rC9)
  obtain ⟨cA0, cA1, cA2, cA3, cA4, cA5, cA6, cA7, cA8, cA9, cA10⟩ := host_cells rA10
  obtain ⟨cB0, cB1, cB2, cB3, cB4, cB5, cB6, cB7, cB8, cB9, cB10⟩ := host_cells rB11
  obtain ⟨cC0, cC1, cC2, cC3, cC4, cC5, cC6, cC7, cC8, cC9, cC10⟩ := host_cells rC12
  go_wp2_with fail
  refine (cM w5 hkc5.good).mono ?_
  rintro e w6 ⟨rfl, hb6⟩
  have hkc6 := hkc5.step hb6
  clear cA0 cA1 cA2 cA3 cA4 cA5 cA6 cA7 cA8 cA9 cA10 cB0 cB1 cB2 cB3 cB4 cB5 cB6 cB7 cB8 cB9 cB10 cC0 cC1 cC2 cC3 cC4 cC5 cC6 cC7 cC8 cC9 cC10
  have rA13 := block_below rA10 hb6 (lt_of_block rA10)
  have rB14 := block_below rB11 hb6 (lt_of_block rB11)
  have rC15 := block_below rC12 hb6 (lt_of_block rC12)
  obtain ⟨cA0, cA1, cA2, cA3, cA4, cA5, cA6, cA7, cA8, cA9, cA10⟩ := host_cells rA13
  obtain ⟨cB0, cB1, cB2, cB3, cB4, cB5, cB6, cB7, cB8, cB9, cB10⟩ := host_cells rB14
  obtain ⟨cC0, cC1, cC2, cC3, cC4, cC5, cC6, cC7, cC8, cC9, cC10⟩ := host_cells rC15
  go_wp2_with fail
  refine (cN w6 hkc6.good).mono ?_
  rintro e w7 ⟨rfl, hb7⟩
  have hkc7 := hkc6.step hb7
  clear cA0 cA1 cA2 cA3 cA4 cA5 cA6 cA7 cA8 cA9 cA10 cB0 cB1 cB2 cB3 cB4 cB5 cB6 cB7 cB8 cB9 cB10 cC0 cC1 cC2 cC3 cC4 cC5 cC6 cC7 cC8 cC9 cC10
  have rA16 := block_below rA13 hb7 (lt_of_block rA13)
  have rB17 := block_below rB14 hb7 (lt_of_block rB14)
  have rC18 := block_below rC15 hb7 (lt_of_block rC15)
  go_wp2
  go_ret
  exact ⟨rfl, hkc7.below⟩

end Go.Proofs.YtcpjonglfnakpaaDoor
