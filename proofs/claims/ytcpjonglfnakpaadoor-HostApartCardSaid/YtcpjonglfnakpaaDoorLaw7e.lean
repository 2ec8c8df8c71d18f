/- The law HostApart, walked over the contracts. -/
import Derived.Test.YtcpjonglfnakpaaDoorLaw7
import Derived.Test.YtcpjonglfnakpaaDoorHostB
import Derived.Test.YtcpjonglfnakpaaDoorCardH
namespace Go.Proofs.YtcpjonglfnakpaaDoor
open Go.RowKit Go.Proofs.YtcpjonglfnakpaaDoorW.PrintWords

set_option maxHeartbeats 8000000 in
set_option maxRecDepth 100000 in
theorem apart_y (k : Int) (hl : ByteArray) (hn z0 z1 z2 z3 z4 z5 z6 z7 : Int) (hhl : hl.size ≤ 300) (i : Int) (T : ByteArray) (hT : T.toList.isEmpty = false) (hTs : T.size ≤ 1000000)
    (hcs : ∀ (c : UInt8) (j : Nat) (h : j < T.size), T[j]'h = c → 32 < c.toNat ∧ c.toNat < 127 ∧ c.toNat ≠ 47 ∧ c.toNat ≠ 63 ∧ c.toNat ≠ 35 ∧ c.toNat ≠ 64 ∧ c.toNat ≠ 92 ∧ (c.toNat = 58 → ∃ (m : Nat) (_ : T.size = m + 1) (h0 : 0 < T.size) (h1 : m < T.size), T[0]'h0 = 91 ∧ T[m]'h1 = 93) ∧ (c.toNat < 65 ∨ 90 < c.toNat)) (w : World) (hG : Good w)
    (cM : ∀ w1, Good w1 → Calls Tryd.prog 11 #[.agg #[.int .i64 k, .string hl, .int .i64 hn, .int .i64 z0, .int .i64 z1, .int .i64 z2, .int .i64 z3, .int .i64 z4, .int .i64 z5, .int .i64 z6, .int .i64 z7]] w1 fun e w' => e = .returned (.bool true) ∧ Below w1.heap.size w1 w')
    (cN : ∀ w1, Good w1 → Calls Tryd.prog 11 #[.agg #[.int .i64 k, .string hl, .int .i64 hn, .int .i64 z0, .int .i64 z1, .int .i64 z2, .int .i64 z3, .int .i64 z4, .int .i64 z5, .int .i64 z6, .int .i64 z7]] w1 fun e w' => e = .returned (.bool true) ∧ Below w1.heap.size w1 w')
    (cS : ∀ w1, Good w1 → Calls Tryd.prog 9 #[.agg #[.int .i64 k, .string hl, .int .i64 hn, .int .i64 z0, .int .i64 z1, .int .i64 z2, .int .i64 z3, .int .i64 z4, .int .i64 z5, .int .i64 z6, .int .i64 z7]] w1 fun e w' => e = .returned (.string T) ∧ Below w1.heap.size w1 w')
    (cR : ∀ w1, Good w1 → Calls Tryd.prog 9 #[.agg #[.int .i64 k, .string hl, .int .i64 hn, .int .i64 z0, .int .i64 z1, .int .i64 z2, .int .i64 z3, .int .i64 z4, .int .i64 z5, .int .i64 z6, .int .i64 z7]] w1 fun e w' => e = .returned (.string T) ∧ Below w1.heap.size w1 w') :
    Calls Tryd.prog 4 #[.agg #[.int .i64 k, .string hl, .int .i64 hn, .int .i64 z0, .int .i64 z1, .int .i64 z2, .int .i64 z3, .int .i64 z4, .int .i64 z5, .int .i64 z6, .int .i64 z7], .agg #[.int .i64 k, .string hl, .int .i64 hn, .int .i64 z0, .int .i64 z1, .int .i64 z2, .int .i64 z3, .int .i64 z4, .int .i64 z5, .int .i64 z6, .int .i64 z7], .int .i64 i] w fun e w' => e = .returned (.bool true) ∧ Below w.heap.size w w' := by
  have d1 : decide ((300 : Int) < (hl.size : Int)) = false := decide_eq_false (by omega)
  have hE := fun w => eqHost k hl hn z0 z1 z2 z3 z4 z5 z6 z7 k hl hn z0 z1 z2 z3 z4 z5 z6 z7 w
  simp only [beq_self_eq_true, Bool.and_true] at hE
  unfold hV at hE
  have hTU : (T.toList == T.toList) = true := beq_self_eq_true _
  have hk0 := Ok.refl hG
  go_enter Tryd.func4, Tryd.ntmps4
  have rA1 := heap_alloc_new w (.cells #[.int .i64 k, .string hl, .int .i64 hn, .int .i64 z0, .int .i64 z1, .int .i64 z2, .int .i64 z3, .int .i64 z4, .int .i64 z5, .int .i64 z6, .int .i64 z7] 24)
  have hka1 := hk0.alloc (.cells #[.int .i64 k, .string hl, .int .i64 hn, .int .i64 z0, .int .i64 z1, .int .i64 z2, .int .i64 z3, .int .i64 z4, .int .i64 z5, .int .i64 z6, .int .i64 z7] 24)
  have rAa2 := block_alloc rA1 (.cells #[.int .i64 k, .string hl, .int .i64 hn, .int .i64 z0, .int .i64 z1, .int .i64 z2, .int .i64 z3, .int .i64 z4, .int .i64 z5, .int .i64 z6, .int .i64 z7] 24)
  have rB2 := heap_alloc_new (w.alloc (.cells #[.int .i64 k, .string hl, .int .i64 hn, .int .i64 z0, .int .i64 z1, .int .i64 z2, .int .i64 z3, .int .i64 z4, .int .i64 z5, .int .i64 z6, .int .i64 z7] 24)) (.cells #[.int .i64 k, .string hl, .int .i64 hn, .int .i64 z0, .int .i64 z1, .int .i64 z2, .int .i64 z3, .int .i64 z4, .int .i64 z5, .int .i64 z6, .int .i64 z7] 24)
  have hka2 := hka1.alloc (.cells #[.int .i64 k, .string hl, .int .i64 hn, .int .i64 z0, .int .i64 z1, .int .i64 z2, .int .i64 z3, .int .i64 z4, .int .i64 z5, .int .i64 z6, .int .i64 z7] 24)
  rw [World.size_alloc] at rB2
  obtain ⟨cA0, cA1, cA2, cA3, cA4, cA5, cA6, cA7, cA8, cA9, cA10⟩ := host_cells rAa2
  obtain ⟨cB0, cB1, cB2, cB3, cB4, cB5, cB6, cB7, cB8, cB9, cB10⟩ := host_cells rB2
  go_wp2_with fail
  refine (awake7 ((w.alloc (.cells #[.int .i64 k, .string hl, .int .i64 hn, .int .i64 z0, .int .i64 z1, .int .i64 z2, .int .i64 z3, .int .i64 z4, .int .i64 z5, .int .i64 z6, .int .i64 z7] 24)).alloc (.cells #[.int .i64 k, .string hl, .int .i64 hn, .int .i64 z0, .int .i64 z1, .int .i64 z2, .int .i64 z3, .int .i64 z4, .int .i64 z5, .int .i64 z6, .int .i64 z7] 24)) hka2.good).mono ?_
  rintro e w1 ⟨rfl, hb1⟩
  have hkc1 := hka2.step hb1
  clear cA0 cA1 cA2 cA3 cA4 cA5 cA6 cA7 cA8 cA9 cA10 cB0 cB1 cB2 cB3 cB4 cB5 cB6 cB7 cB8 cB9 cB10
  have rA3 := block_below rAa2 hb1 (lt_of_block rAa2)
  have rB4 := block_below rB2 hb1 (lt_of_block rB2)
  obtain ⟨cA0, cA1, cA2, cA3, cA4, cA5, cA6, cA7, cA8, cA9, cA10⟩ := host_cells rA3
  obtain ⟨cB0, cB1, cB2, cB3, cB4, cB5, cB6, cB7, cB8, cB9, cB10⟩ := host_cells rB4
  go_wp2_with fail
  refine (cM w1 hkc1.good).mono ?_
  rintro e w2 ⟨rfl, hb2⟩
  have hkc2 := hkc1.step hb2
  clear cA0 cA1 cA2 cA3 cA4 cA5 cA6 cA7 cA8 cA9 cA10 cB0 cB1 cB2 cB3 cB4 cB5 cB6 cB7 cB8 cB9 cB10
  have rA5 := block_below rA3 hb2 (lt_of_block rA3)
  have rB6 := block_below rB4 hb2 (lt_of_block rB4)
  obtain ⟨cA0, cA1, cA2, cA3, cA4, cA5, cA6, cA7, cA8, cA9, cA10⟩ := host_cells rA5
  obtain ⟨cB0, cB1, cB2, cB3, cB4, cB5, cB6, cB7, cB8, cB9, cB10⟩ := host_cells rB6
  go_wp2_with fail
  refine (cN w2 hkc2.good).mono ?_
  rintro e w3 ⟨rfl, hb3⟩
  have hkc3 := hkc2.step hb3
  clear cA0 cA1 cA2 cA3 cA4 cA5 cA6 cA7 cA8 cA9 cA10 cB0 cB1 cB2 cB3 cB4 cB5 cB6 cB7 cB8 cB9 cB10
  have rA7 := block_below rA5 hb3 (lt_of_block rA5)
  have rB8 := block_below rB6 hb3 (lt_of_block rB6)
  obtain ⟨cA0, cA1, cA2, cA3, cA4, cA5, cA6, cA7, cA8, cA9, cA10⟩ := host_cells rA7
  obtain ⟨cB0, cB1, cB2, cB3, cB4, cB5, cB6, cB7, cB8, cB9, cB10⟩ := host_cells rB8
  go_wp2_with fail
  refine (cS w3 hkc3.good).mono ?_
  rintro e w4 ⟨rfl, hb4⟩
  have hkc4 := hkc3.step hb4
  clear cA0 cA1 cA2 cA3 cA4 cA5 cA6 cA7 cA8 cA9 cA10 cB0 cB1 cB2 cB3 cB4 cB5 cB6 cB7 cB8 cB9 cB10
  have rA9 := block_below rA7 hb4 (lt_of_block rA7)
  have rB10 := block_below rB8 hb4 (lt_of_block rB8)
  obtain ⟨cA0, cA1, cA2, cA3, cA4, cA5, cA6, cA7, cA8, cA9, cA10⟩ := host_cells rA9
  obtain ⟨cB0, cB1, cB2, cB3, cB4, cB5, cB6, cB7, cB8, cB9, cB10⟩ := host_cells rB10
  have hmk : ∀ w', Ok w4 w' → (fun w' => Ok w4 w' ∧ w'.cell? ⟨w.heap.size, 0, none⟩ = some (.int .i64 k) ∧ w'.cell? ⟨w.heap.size, 1, none⟩ = some (.string hl) ∧ w'.cell? ⟨w.heap.size, 2, none⟩ = some (.int .i64 hn) ∧ w'.cell? ⟨w.heap.size, 3, none⟩ = some (.int .i64 z0) ∧ w'.cell? ⟨w.heap.size, 4, none⟩ = some (.int .i64 z1) ∧ w'.cell? ⟨w.heap.size, 5, none⟩ = some (.int .i64 z2) ∧ w'.cell? ⟨w.heap.size, 6, none⟩ = some (.int .i64 z3) ∧ w'.cell? ⟨w.heap.size, 7, none⟩ = some (.int .i64 z4) ∧ w'.cell? ⟨w.heap.size, 8, none⟩ = some (.int .i64 z5) ∧ w'.cell? ⟨w.heap.size, 9, none⟩ = some (.int .i64 z6) ∧ w'.cell? ⟨w.heap.size, 10, none⟩ = some (.int .i64 z7) ∧ w'.cell? ⟨w.heap.size + 1, 0, none⟩ = some (.int .i64 k) ∧ w'.cell? ⟨w.heap.size + 1, 1, none⟩ = some (.string hl) ∧ w'.cell? ⟨w.heap.size + 1, 2, none⟩ = some (.int .i64 hn) ∧ w'.cell? ⟨w.heap.size + 1, 3, none⟩ = some (.int .i64 z0) ∧ w'.cell? ⟨w.heap.size + 1, 4, none⟩ = some (.int .i64 z1) ∧ w'.cell? ⟨w.heap.size + 1, 5, none⟩ = some (.int .i64 z2) ∧ w'.cell? ⟨w.heap.size + 1, 6, none⟩ = some (.int .i64 z3) ∧ w'.cell? ⟨w.heap.size + 1, 7, none⟩ = some (.int .i64 z4) ∧ w'.cell? ⟨w.heap.size + 1, 8, none⟩ = some (.int .i64 z5) ∧ w'.cell? ⟨w.heap.size + 1, 9, none⟩ = some (.int .i64 z6) ∧ w'.cell? ⟨w.heap.size + 1, 10, none⟩ = some (.int .i64 z7)) w' := fun w' h => by
    obtain ⟨a0, a1, a2, a3, a4, a5, a6, a7, a8, a9, a10⟩ := host_cells (block_below rA9 h.below (lt_of_block rA9))
    obtain ⟨b0, b1, b2, b3, b4, b5, b6, b7, b8, b9, b10⟩ := host_cells (block_below rB10 h.below (lt_of_block rB10))
    exact ⟨h, a0, a1, a2, a3, a4, a5, a6, a7, a8, a9, a10, b0, b1, b2, b3, b4, b5, b6, b7, b8, b9, b10⟩
  have hkd := (Ok.refl hkc4.good).drew
  have cR' : ∀ w', Ok w4 w' → _ := fun w' h => ok_below h fun hg => cR w' hg
  have hfin : ∀ w', Ok w4 w' → Below w.heap.size w w' := fun w' h => below_on hkc4.below hkc4.below.size h.below
  clear rA9 rB10 cM cN cS cR
  go_wp2_with fail
  go_region_held3 (fun w' => Ok w4 w' ∧ w'.cell? ⟨w.heap.size, 0, none⟩ = some (.int .i64 k) ∧ w'.cell? ⟨w.heap.size, 1, none⟩ = some (.string hl) ∧ w'.cell? ⟨w.heap.size, 2, none⟩ = some (.int .i64 hn) ∧ w'.cell? ⟨w.heap.size, 3, none⟩ = some (.int .i64 z0) ∧ w'.cell? ⟨w.heap.size, 4, none⟩ = some (.int .i64 z1) ∧ w'.cell? ⟨w.heap.size, 5, none⟩ = some (.int .i64 z2) ∧ w'.cell? ⟨w.heap.size, 6, none⟩ = some (.int .i64 z3) ∧ w'.cell? ⟨w.heap.size, 7, none⟩ = some (.int .i64 z4) ∧ w'.cell? ⟨w.heap.size, 8, none⟩ = some (.int .i64 z5) ∧ w'.cell? ⟨w.heap.size, 9, none⟩ = some (.int .i64 z6) ∧ w'.cell? ⟨w.heap.size, 10, none⟩ = some (.int .i64 z7) ∧ w'.cell? ⟨w.heap.size + 1, 0, none⟩ = some (.int .i64 k) ∧ w'.cell? ⟨w.heap.size + 1, 1, none⟩ = some (.string hl) ∧ w'.cell? ⟨w.heap.size + 1, 2, none⟩ = some (.int .i64 hn) ∧ w'.cell? ⟨w.heap.size + 1, 3, none⟩ = some (.int .i64 z0) ∧ w'.cell? ⟨w.heap.size + 1, 4, none⟩ = some (.int .i64 z1) ∧ w'.cell? ⟨w.heap.size + 1, 5, none⟩ = some (.int .i64 z2) ∧ w'.cell? ⟨w.heap.size + 1, 6, none⟩ = some (.int .i64 z3) ∧ w'.cell? ⟨w.heap.size + 1, 7, none⟩ = some (.int .i64 z4) ∧ w'.cell? ⟨w.heap.size + 1, 8, none⟩ = some (.int .i64 z5) ∧ w'.cell? ⟨w.heap.size + 1, 9, none⟩ = some (.int .i64 z6) ∧ w'.cell? ⟨w.heap.size + 1, 10, none⟩ = some (.int .i64 z7)) (exact hmk _ (by assumption)) (first | (go_simp; go_at_call 9; refine (cR' _ ?_).mono ?_; (exact And.left (by assumption)); rintro e wm ⟨rfl, hmm⟩))
  all_goals
    by_cases i0 : i < 0
    · have j0 : decide (i < 0) = true := decide_eq_true i0
      go_wp2
      go_ret
      exact ⟨rfl, hfin _ (And.left (by assumption))⟩
    · have j0 : decide (i < 0) = false := decide_eq_false i0
      by_cases i1 : (T.size : Int) ≤ i
      · have j1 : decide ((T.size : Int) ≤ i) = true := decide_eq_true i1
        go_wp2
        go_ret
        exact ⟨rfl, hfin _ (And.left (by assumption))⟩
      · have j1 : decide ((T.size : Int) ≤ i) = false := decide_eq_false i1
        obtain ⟨j, rfl⟩ := Int.eq_ofNat_of_zero_le (Int.not_lt.1 i0)
        have hj : j < T.size := by omega
        obtain ⟨c, hc⟩ : ∃ c, T[j]'hj = c := ⟨_, rfl⟩
        obtain ⟨c32, c127, c47, c63, c35, c64, c92, hcol, hcap⟩ := hcs c j hj hc
        have f1 : decide ((32 : Int) < (c.toNat : Int)) = true := decide_eq_true (by omega)
        have f2 : decide ((c.toNat : Int) < 127) = true := decide_eq_true (by omega)
        have g47 : ((c.toNat : Int) != 47) = true := bne_iff_ne.2 (by omega)
        have g63 : ((c.toNat : Int) != 63) = true := bne_iff_ne.2 (by omega)
        have g35 : ((c.toNat : Int) != 35) = true := bne_iff_ne.2 (by omega)
        have g64 : ((c.toNat : Int) != 64) = true := bne_iff_ne.2 (by omega)
        have g92 : ((c.toNat : Int) != 92) = true := bne_iff_ne.2 (by omega)
        clear hcs
        by_cases hC : c.toNat = 58
        · obtain ⟨m, hm, h0, h1, e0, e1⟩ := hcol hC
          obtain ⟨x0, hx0⟩ : ∃ x, T[0]'h0 = x := ⟨_, rfl⟩
          obtain ⟨x1, hx1⟩ : ∃ x, T[m]'h1 = x := ⟨_, rfl⟩
          have g0 : ((x0.toNat : Int) == 91) = true := by rw [← hx0, e0]; rfl
          have g1 : ((x1.toNat : Int) == 93) = true := by rw [← hx1, e1]; rfl
          clear e0 e1
          have hmb : m ≤ 1000000 := by omega
          have g58 : ((c.toNat : Int) != 58) = false := by rw [hC]; rfl
          have f3 : decide ((c.toNat : Int) < 65) = true := decide_eq_true (by omega)
          go_wp2
          go_ret
          exact ⟨rfl, hfin _ (And.left (by assumption))⟩
        · have g58 : ((c.toNat : Int) != 58) = true := bne_iff_ne.2 (by omega)
          by_cases hD : c.toNat < 65
          · have f3 : decide ((c.toNat : Int) < 65) = true := decide_eq_true (by omega)
            go_wp2
            go_ret
            exact ⟨rfl, hfin _ (And.left (by assumption))⟩
          · have f3 : decide ((c.toNat : Int) < 65) = false := decide_eq_false (by omega)
            have f4 : decide ((90 : Int) < (c.toNat : Int)) = true := decide_eq_true (by omega)
            go_wp2
            go_ret
            exact ⟨rfl, hfin _ (And.left (by assumption))⟩

set_option maxHeartbeats 8000000 in
set_option maxRecDepth 100000 in
theorem apart_n (k : Int) (hl : ByteArray) (hn z0 z1 z2 z3 z4 z5 z6 z7 : Int) (hhl : hl.size ≤ 300) (k2 : Int) (hl2 : ByteArray) (hn2 v0 v1 v2 v3 v4 v5 v6 v7 : Int) (hhl2 : hl2.size ≤ 300) (i : Int) (T : ByteArray) (hT : T.toList.isEmpty = false) (hTs : T.size ≤ 1000000)
    (hcs : ∀ (c : UInt8) (j : Nat) (h : j < T.size), T[j]'h = c → 32 < c.toNat ∧ c.toNat < 127 ∧ c.toNat ≠ 47 ∧ c.toNat ≠ 63 ∧ c.toNat ≠ 35 ∧ c.toNat ≠ 64 ∧ c.toNat ≠ 92 ∧ (c.toNat = 58 → ∃ (m : Nat) (_ : T.size = m + 1) (h0 : 0 < T.size) (h1 : m < T.size), T[0]'h0 = 91 ∧ T[m]'h1 = 93) ∧ (c.toNat < 65 ∨ 90 < c.toNat)) (U : ByteArray) (hTU : (T.toList == U.toList) = false)
    (hE : ∀ w : World, (Op.equalIn 10000 24 (.agg #[.int .i64 k, .string hl, .int .i64 hn, .int .i64 z0, .int .i64 z1, .int .i64 z2, .int .i64 z3, .int .i64 z4, .int .i64 z5, .int .i64 z6, .int .i64 z7]) (.agg #[.int .i64 k2, .string hl2, .int .i64 hn2, .int .i64 v0, .int .i64 v1, .int .i64 v2, .int .i64 v3, .int .i64 v4, .int .i64 v5, .int .i64 v6, .int .i64 v7])).run Tryd.prog w = .ok false w) (w : World) (hG : Good w)
    (cM : ∀ w1, Good w1 → Calls Tryd.prog 11 #[.agg #[.int .i64 k, .string hl, .int .i64 hn, .int .i64 z0, .int .i64 z1, .int .i64 z2, .int .i64 z3, .int .i64 z4, .int .i64 z5, .int .i64 z6, .int .i64 z7]] w1 fun e w' => e = .returned (.bool true) ∧ Below w1.heap.size w1 w')
    (cN : ∀ w1, Good w1 → Calls Tryd.prog 11 #[.agg #[.int .i64 k2, .string hl2, .int .i64 hn2, .int .i64 v0, .int .i64 v1, .int .i64 v2, .int .i64 v3, .int .i64 v4, .int .i64 v5, .int .i64 v6, .int .i64 v7]] w1 fun e w' => e = .returned (.bool true) ∧ Below w1.heap.size w1 w')
    (cS : ∀ w1, Good w1 → Calls Tryd.prog 9 #[.agg #[.int .i64 k, .string hl, .int .i64 hn, .int .i64 z0, .int .i64 z1, .int .i64 z2, .int .i64 z3, .int .i64 z4, .int .i64 z5, .int .i64 z6, .int .i64 z7]] w1 fun e w' => e = .returned (.string T) ∧ Below w1.heap.size w1 w')
    (cR : ∀ w1, Good w1 → Calls Tryd.prog 9 #[.agg #[.int .i64 k2, .string hl2, .int .i64 hn2, .int .i64 v0, .int .i64 v1, .int .i64 v2, .int .i64 v3, .int .i64 v4, .int .i64 v5, .int .i64 v6, .int .i64 v7]] w1 fun e w' => e = .returned (.string U) ∧ Below w1.heap.size w1 w') :
    Calls Tryd.prog 4 #[.agg #[.int .i64 k, .string hl, .int .i64 hn, .int .i64 z0, .int .i64 z1, .int .i64 z2, .int .i64 z3, .int .i64 z4, .int .i64 z5, .int .i64 z6, .int .i64 z7], .agg #[.int .i64 k2, .string hl2, .int .i64 hn2, .int .i64 v0, .int .i64 v1, .int .i64 v2, .int .i64 v3, .int .i64 v4, .int .i64 v5, .int .i64 v6, .int .i64 v7], .int .i64 i] w fun e w' => e = .returned (.bool true) ∧ Below w.heap.size w w' := by
  have d1 : decide ((300 : Int) < (hl.size : Int)) = false := decide_eq_false (by omega)
  have d2 : decide ((300 : Int) < (hl2.size : Int)) = false := decide_eq_false (by omega)
  have hk0 := Ok.refl hG
  go_enter Tryd.func4, Tryd.ntmps4
  have rA1 := heap_alloc_new w (.cells #[.int .i64 k, .string hl, .int .i64 hn, .int .i64 z0, .int .i64 z1, .int .i64 z2, .int .i64 z3, .int .i64 z4, .int .i64 z5, .int .i64 z6, .int .i64 z7] 24)
  have hka1 := hk0.alloc (.cells #[.int .i64 k, .string hl, .int .i64 hn, .int .i64 z0, .int .i64 z1, .int .i64 z2, .int .i64 z3, .int .i64 z4, .int .i64 z5, .int .i64 z6, .int .i64 z7] 24)
  have rAa2 := block_alloc rA1 (.cells #[.int .i64 k2, .string hl2, .int .i64 hn2, .int .i64 v0, .int .i64 v1, .int .i64 v2, .int .i64 v3, .int .i64 v4, .int .i64 v5, .int .i64 v6, .int .i64 v7] 24)
  have rB2 := heap_alloc_new (w.alloc (.cells #[.int .i64 k, .string hl, .int .i64 hn, .int .i64 z0, .int .i64 z1, .int .i64 z2, .int .i64 z3, .int .i64 z4, .int .i64 z5, .int .i64 z6, .int .i64 z7] 24)) (.cells #[.int .i64 k2, .string hl2, .int .i64 hn2, .int .i64 v0, .int .i64 v1, .int .i64 v2, .int .i64 v3, .int .i64 v4, .int .i64 v5, .int .i64 v6, .int .i64 v7] 24)
  have hka2 := hka1.alloc (.cells #[.int .i64 k2, .string hl2, .int .i64 hn2, .int .i64 v0, .int .i64 v1, .int .i64 v2, .int .i64 v3, .int .i64 v4, .int .i64 v5, .int .i64 v6, .int .i64 v7] 24)
  rw [World.size_alloc] at rB2
  obtain ⟨cA0, cA1, cA2, cA3, cA4, cA5, cA6, cA7, cA8, cA9, cA10⟩ := host_cells rAa2
  obtain ⟨cB0, cB1, cB2, cB3, cB4, cB5, cB6, cB7, cB8, cB9, cB10⟩ := host_cells rB2
  go_wp2_with fail
  refine (awake7 ((w.alloc (.cells #[.int .i64 k, .string hl, .int .i64 hn, .int .i64 z0, .int .i64 z1, .int .i64 z2, .int .i64 z3, .int .i64 z4, .int .i64 z5, .int .i64 z6, .int .i64 z7] 24)).alloc (.cells #[.int .i64 k2, .string hl2, .int .i64 hn2, .int .i64 v0, .int .i64 v1, .int .i64 v2, .int .i64 v3, .int .i64 v4, .int .i64 v5, .int .i64 v6, .int .i64 v7] 24)) hka2.good).mono ?_
  rintro e w1 ⟨rfl, hb1⟩
  have hkc1 := hka2.step hb1
  clear cA0 cA1 cA2 cA3 cA4 cA5 cA6 cA7 cA8 cA9 cA10 cB0 cB1 cB2 cB3 cB4 cB5 cB6 cB7 cB8 cB9 cB10
  have rA3 := block_below rAa2 hb1 (lt_of_block rAa2)
  have rB4 := block_below rB2 hb1 (lt_of_block rB2)
  obtain ⟨cA0, cA1, cA2, cA3, cA4, cA5, cA6, cA7, cA8, cA9, cA10⟩ := host_cells rA3
  obtain ⟨cB0, cB1, cB2, cB3, cB4, cB5, cB6, cB7, cB8, cB9, cB10⟩ := host_cells rB4
  go_wp2_with fail
  refine (cM w1 hkc1.good).mono ?_
  rintro e w2 ⟨rfl, hb2⟩
  have hkc2 := hkc1.step hb2
  clear cA0 cA1 cA2 cA3 cA4 cA5 cA6 cA7 cA8 cA9 cA10 cB0 cB1 cB2 cB3 cB4 cB5 cB6 cB7 cB8 cB9 cB10
  have rA5 := block_below rA3 hb2 (lt_of_block rA3)
  have rB6 := block_below rB4 hb2 (lt_of_block rB4)
  obtain ⟨cA0, cA1, cA2, cA3, cA4, cA5, cA6, cA7, cA8, cA9, cA10⟩ := host_cells rA5
  obtain ⟨cB0, cB1, cB2, cB3, cB4, cB5, cB6, cB7, cB8, cB9, cB10⟩ := host_cells rB6
  go_wp2_with fail
  refine (cN w2 hkc2.good).mono ?_
  rintro e w3 ⟨rfl, hb3⟩
  have hkc3 := hkc2.step hb3
  clear cA0 cA1 cA2 cA3 cA4 cA5 cA6 cA7 cA8 cA9 cA10 cB0 cB1 cB2 cB3 cB4 cB5 cB6 cB7 cB8 cB9 cB10
  have rA7 := block_below rA5 hb3 (lt_of_block rA5)
  have rB8 := block_below rB6 hb3 (lt_of_block rB6)
  obtain ⟨cA0, cA1, cA2, cA3, cA4, cA5, cA6, cA7, cA8, cA9, cA10⟩ := host_cells rA7
  obtain ⟨cB0, cB1, cB2, cB3, cB4, cB5, cB6, cB7, cB8, cB9, cB10⟩ := host_cells rB8
  go_wp2_with fail
  refine (cS w3 hkc3.good).mono ?_
  rintro e w4 ⟨rfl, hb4⟩
  have hkc4 := hkc3.step hb4
  clear cA0 cA1 cA2 cA3 cA4 cA5 cA6 cA7 cA8 cA9 cA10 cB0 cB1 cB2 cB3 cB4 cB5 cB6 cB7 cB8 cB9 cB10
  have rA9 := block_below rA7 hb4 (lt_of_block rA7)
  have rB10 := block_below rB8 hb4 (lt_of_block rB8)
  obtain ⟨cA0, cA1, cA2, cA3, cA4, cA5, cA6, cA7, cA8, cA9, cA10⟩ := host_cells rA9
  obtain ⟨cB0, cB1, cB2, cB3, cB4, cB5, cB6, cB7, cB8, cB9, cB10⟩ := host_cells rB10
  have hmk : ∀ w', Ok w4 w' → (fun w' => Ok w4 w' ∧ w'.cell? ⟨w.heap.size, 0, none⟩ = some (.int .i64 k) ∧ w'.cell? ⟨w.heap.size, 1, none⟩ = some (.string hl) ∧ w'.cell? ⟨w.heap.size, 2, none⟩ = some (.int .i64 hn) ∧ w'.cell? ⟨w.heap.size, 3, none⟩ = some (.int .i64 z0) ∧ w'.cell? ⟨w.heap.size, 4, none⟩ = some (.int .i64 z1) ∧ w'.cell? ⟨w.heap.size, 5, none⟩ = some (.int .i64 z2) ∧ w'.cell? ⟨w.heap.size, 6, none⟩ = some (.int .i64 z3) ∧ w'.cell? ⟨w.heap.size, 7, none⟩ = some (.int .i64 z4) ∧ w'.cell? ⟨w.heap.size, 8, none⟩ = some (.int .i64 z5) ∧ w'.cell? ⟨w.heap.size, 9, none⟩ = some (.int .i64 z6) ∧ w'.cell? ⟨w.heap.size, 10, none⟩ = some (.int .i64 z7) ∧ w'.cell? ⟨w.heap.size + 1, 0, none⟩ = some (.int .i64 k2) ∧ w'.cell? ⟨w.heap.size + 1, 1, none⟩ = some (.string hl2) ∧ w'.cell? ⟨w.heap.size + 1, 2, none⟩ = some (.int .i64 hn2) ∧ w'.cell? ⟨w.heap.size + 1, 3, none⟩ = some (.int .i64 v0) ∧ w'.cell? ⟨w.heap.size + 1, 4, none⟩ = some (.int .i64 v1) ∧ w'.cell? ⟨w.heap.size + 1, 5, none⟩ = some (.int .i64 v2) ∧ w'.cell? ⟨w.heap.size + 1, 6, none⟩ = some (.int .i64 v3) ∧ w'.cell? ⟨w.heap.size + 1, 7, none⟩ = some (.int .i64 v4) ∧ w'.cell? ⟨w.heap.size + 1, 8, none⟩ = some (.int .i64 v5) ∧ w'.cell? ⟨w.heap.size + 1, 9, none⟩ = some (.int .i64 v6) ∧ w'.cell? ⟨w.heap.size + 1, 10, none⟩ = some (.int .i64 v7)) w' := fun w' h => by
    obtain ⟨a0, a1, a2, a3, a4, a5, a6, a7, a8, a9, a10⟩ := host_cells (block_below rA9 h.below (lt_of_block rA9))
    obtain ⟨b0, b1, b2, b3, b4, b5, b6, b7, b8, b9, b10⟩ := host_cells (block_below rB10 h.below (lt_of_block rB10))
    exact ⟨h, a0, a1, a2, a3, a4, a5, a6, a7, a8, a9, a10, b0, b1, b2, b3, b4, b5, b6, b7, b8, b9, b10⟩
  have hkd := (Ok.refl hkc4.good).drew
  have cR' : ∀ w', Ok w4 w' → _ := fun w' h => ok_below h fun hg => cR w' hg
  have hfin : ∀ w', Ok w4 w' → Below w.heap.size w w' := fun w' h => below_on hkc4.below hkc4.below.size h.below
  clear rA9 rB10 cM cN cS cR
  go_wp2_with fail
  go_region_held3 (fun w' => Ok w4 w' ∧ w'.cell? ⟨w.heap.size, 0, none⟩ = some (.int .i64 k) ∧ w'.cell? ⟨w.heap.size, 1, none⟩ = some (.string hl) ∧ w'.cell? ⟨w.heap.size, 2, none⟩ = some (.int .i64 hn) ∧ w'.cell? ⟨w.heap.size, 3, none⟩ = some (.int .i64 z0) ∧ w'.cell? ⟨w.heap.size, 4, none⟩ = some (.int .i64 z1) ∧ w'.cell? ⟨w.heap.size, 5, none⟩ = some (.int .i64 z2) ∧ w'.cell? ⟨w.heap.size, 6, none⟩ = some (.int .i64 z3) ∧ w'.cell? ⟨w.heap.size, 7, none⟩ = some (.int .i64 z4) ∧ w'.cell? ⟨w.heap.size, 8, none⟩ = some (.int .i64 z5) ∧ w'.cell? ⟨w.heap.size, 9, none⟩ = some (.int .i64 z6) ∧ w'.cell? ⟨w.heap.size, 10, none⟩ = some (.int .i64 z7) ∧ w'.cell? ⟨w.heap.size + 1, 0, none⟩ = some (.int .i64 k2) ∧ w'.cell? ⟨w.heap.size + 1, 1, none⟩ = some (.string hl2) ∧ w'.cell? ⟨w.heap.size + 1, 2, none⟩ = some (.int .i64 hn2) ∧ w'.cell? ⟨w.heap.size + 1, 3, none⟩ = some (.int .i64 v0) ∧ w'.cell? ⟨w.heap.size + 1, 4, none⟩ = some (.int .i64 v1) ∧ w'.cell? ⟨w.heap.size + 1, 5, none⟩ = some (.int .i64 v2) ∧ w'.cell? ⟨w.heap.size + 1, 6, none⟩ = some (.int .i64 v3) ∧ w'.cell? ⟨w.heap.size + 1, 7, none⟩ = some (.int .i64 v4) ∧ w'.cell? ⟨w.heap.size + 1, 8, none⟩ = some (.int .i64 v5) ∧ w'.cell? ⟨w.heap.size + 1, 9, none⟩ = some (.int .i64 v6) ∧ w'.cell? ⟨w.heap.size + 1, 10, none⟩ = some (.int .i64 v7)) (exact hmk _ (by assumption)) (first | (go_simp; go_at_call 9; refine (cR' _ ?_).mono ?_; (exact And.left (by assumption)); rintro e wm ⟨rfl, hmm⟩))
  all_goals
    by_cases i0 : i < 0
    · have j0 : decide (i < 0) = true := decide_eq_true i0
      go_wp2
      go_ret
      exact ⟨rfl, hfin _ (And.left (by assumption))⟩
    · have j0 : decide (i < 0) = false := decide_eq_false i0
      by_cases i1 : (T.size : Int) ≤ i
      · have j1 : decide ((T.size : Int) ≤ i) = true := decide_eq_true i1
        go_wp2
        go_ret
        exact ⟨rfl, hfin _ (And.left (by assumption))⟩
      · have j1 : decide ((T.size : Int) ≤ i) = false := decide_eq_false i1
        obtain ⟨j, rfl⟩ := Int.eq_ofNat_of_zero_le (Int.not_lt.1 i0)
        have hj : j < T.size := by omega
        obtain ⟨c, hc⟩ : ∃ c, T[j]'hj = c := ⟨_, rfl⟩
        obtain ⟨c32, c127, c47, c63, c35, c64, c92, hcol, hcap⟩ := hcs c j hj hc
        have f1 : decide ((32 : Int) < (c.toNat : Int)) = true := decide_eq_true (by omega)
        have f2 : decide ((c.toNat : Int) < 127) = true := decide_eq_true (by omega)
        have g47 : ((c.toNat : Int) != 47) = true := bne_iff_ne.2 (by omega)
        have g63 : ((c.toNat : Int) != 63) = true := bne_iff_ne.2 (by omega)
        have g35 : ((c.toNat : Int) != 35) = true := bne_iff_ne.2 (by omega)
        have g64 : ((c.toNat : Int) != 64) = true := bne_iff_ne.2 (by omega)
        have g92 : ((c.toNat : Int) != 92) = true := bne_iff_ne.2 (by omega)
        clear hcs
        by_cases hC : c.toNat = 58
        · obtain ⟨m, hm, h0, h1, e0, e1⟩ := hcol hC
          obtain ⟨x0, hx0⟩ : ∃ x, T[0]'h0 = x := ⟨_, rfl⟩
          obtain ⟨x1, hx1⟩ : ∃ x, T[m]'h1 = x := ⟨_, rfl⟩
          have g0 : ((x0.toNat : Int) == 91) = true := by rw [← hx0, e0]; rfl
          have g1 : ((x1.toNat : Int) == 93) = true := by rw [← hx1, e1]; rfl
          clear e0 e1
          have hmb : m ≤ 1000000 := by omega
          have g58 : ((c.toNat : Int) != 58) = false := by rw [hC]; rfl
          have f3 : decide ((c.toNat : Int) < 65) = true := decide_eq_true (by omega)
          go_wp2
          go_ret
          exact ⟨rfl, hfin _ (And.left (by assumption))⟩
        · have g58 : ((c.toNat : Int) != 58) = true := bne_iff_ne.2 (by omega)
          by_cases hD : c.toNat < 65
          · have f3 : decide ((c.toNat : Int) < 65) = true := decide_eq_true (by omega)
            go_wp2
            go_ret
            exact ⟨rfl, hfin _ (And.left (by assumption))⟩
          · have f3 : decide ((c.toNat : Int) < 65) = false := decide_eq_false (by omega)
            have f4 : decide ((90 : Int) < (c.toNat : Int)) = true := decide_eq_true (by omega)
            go_wp2
            go_ret
            exact ⟨rfl, hfin _ (And.left (by assumption))⟩

set_option maxHeartbeats 8000000 in
set_option maxRecDepth 100000 in
theorem apart_la (k : Int) (hl : ByteArray) (hn z0 z1 z2 z3 z4 z5 z6 z7 : Int) (k2 : Int) (hl2 : ByteArray) (hn2 v0 v1 v2 v3 v4 v5 v6 v7 : Int) (i : Int) (hhl : ¬ hl.size ≤ 300) (w : World) (hG : Good w) :
    Calls Tryd.prog 4 #[.agg #[.int .i64 k, .string hl, .int .i64 hn, .int .i64 z0, .int .i64 z1, .int .i64 z2, .int .i64 z3, .int .i64 z4, .int .i64 z5, .int .i64 z6, .int .i64 z7], .agg #[.int .i64 k2, .string hl2, .int .i64 hn2, .int .i64 v0, .int .i64 v1, .int .i64 v2, .int .i64 v3, .int .i64 v4, .int .i64 v5, .int .i64 v6, .int .i64 v7], .int .i64 i] w fun e w' => e = .returned (.bool true) ∧ Below w.heap.size w w' := by
  have d1 : decide ((300 : Int) < (hl.size : Int)) = true := decide_eq_true (by omega)
  have hk0 := Ok.refl hG
  go_enter Tryd.func4, Tryd.ntmps4
  have rA1 := heap_alloc_new w (.cells #[.int .i64 k, .string hl, .int .i64 hn, .int .i64 z0, .int .i64 z1, .int .i64 z2, .int .i64 z3, .int .i64 z4, .int .i64 z5, .int .i64 z6, .int .i64 z7] 24)
  have hka1 := hk0.alloc (.cells #[.int .i64 k, .string hl, .int .i64 hn, .int .i64 z0, .int .i64 z1, .int .i64 z2, .int .i64 z3, .int .i64 z4, .int .i64 z5, .int .i64 z6, .int .i64 z7] 24)
  have rAa2 := block_alloc rA1 (.cells #[.int .i64 k2, .string hl2, .int .i64 hn2, .int .i64 v0, .int .i64 v1, .int .i64 v2, .int .i64 v3, .int .i64 v4, .int .i64 v5, .int .i64 v6, .int .i64 v7] 24)
  have rB2 := heap_alloc_new (w.alloc (.cells #[.int .i64 k, .string hl, .int .i64 hn, .int .i64 z0, .int .i64 z1, .int .i64 z2, .int .i64 z3, .int .i64 z4, .int .i64 z5, .int .i64 z6, .int .i64 z7] 24)) (.cells #[.int .i64 k2, .string hl2, .int .i64 hn2, .int .i64 v0, .int .i64 v1, .int .i64 v2, .int .i64 v3, .int .i64 v4, .int .i64 v5, .int .i64 v6, .int .i64 v7] 24)
  have hka2 := hka1.alloc (.cells #[.int .i64 k2, .string hl2, .int .i64 hn2, .int .i64 v0, .int .i64 v1, .int .i64 v2, .int .i64 v3, .int .i64 v4, .int .i64 v5, .int .i64 v6, .int .i64 v7] 24)
  rw [World.size_alloc] at rB2
  obtain ⟨cA0, cA1, cA2, cA3, cA4, cA5, cA6, cA7, cA8, cA9, cA10⟩ := host_cells rAa2
  obtain ⟨cB0, cB1, cB2, cB3, cB4, cB5, cB6, cB7, cB8, cB9, cB10⟩ := host_cells rB2
  go_wp2_with fail
  refine (awake7 ((w.alloc (.cells #[.int .i64 k, .string hl, .int .i64 hn, .int .i64 z0, .int .i64 z1, .int .i64 z2, .int .i64 z3, .int .i64 z4, .int .i64 z5, .int .i64 z6, .int .i64 z7] 24)).alloc (.cells #[.int .i64 k2, .string hl2, .int .i64 hn2, .int .i64 v0, .int .i64 v1, .int .i64 v2, .int .i64 v3, .int .i64 v4, .int .i64 v5, .int .i64 v6, .int .i64 v7] 24)) hka2.good).mono ?_
  rintro e w1 ⟨rfl, hb1⟩
  have hkc1 := hka2.step hb1
  clear cA0 cA1 cA2 cA3 cA4 cA5 cA6 cA7 cA8 cA9 cA10 cB0 cB1 cB2 cB3 cB4 cB5 cB6 cB7 cB8 cB9 cB10
  have rA3 := block_below rAa2 hb1 (lt_of_block rAa2)
  have rB4 := block_below rB2 hb1 (lt_of_block rB2)
  obtain ⟨cA0, cA1, cA2, cA3, cA4, cA5, cA6, cA7, cA8, cA9, cA10⟩ := host_cells rA3
  obtain ⟨cB0, cB1, cB2, cB3, cB4, cB5, cB6, cB7, cB8, cB9, cB10⟩ := host_cells rB4
  go_wp2
  go_ret
  exact ⟨rfl, hkc1.below⟩

set_option maxHeartbeats 8000000 in
set_option maxRecDepth 100000 in
theorem apart_lb (k : Int) (hl : ByteArray) (hn z0 z1 z2 z3 z4 z5 z6 z7 : Int) (k2 : Int) (hl2 : ByteArray) (hn2 v0 v1 v2 v3 v4 v5 v6 v7 : Int) (i : Int) (hhl : hl.size ≤ 300) (hhl2 : ¬ hl2.size ≤ 300) (w : World) (hG : Good w) :
    Calls Tryd.prog 4 #[.agg #[.int .i64 k, .string hl, .int .i64 hn, .int .i64 z0, .int .i64 z1, .int .i64 z2, .int .i64 z3, .int .i64 z4, .int .i64 z5, .int .i64 z6, .int .i64 z7], .agg #[.int .i64 k2, .string hl2, .int .i64 hn2, .int .i64 v0, .int .i64 v1, .int .i64 v2, .int .i64 v3, .int .i64 v4, .int .i64 v5, .int .i64 v6, .int .i64 v7], .int .i64 i] w fun e w' => e = .returned (.bool true) ∧ Below w.heap.size w w' := by
  have d1 : decide ((300 : Int) < (hl.size : Int)) = false := decide_eq_false (by omega)
  have d2 : decide ((300 : Int) < (hl2.size : Int)) = true := decide_eq_true (by omega)
  have hk0 := Ok.refl hG
  go_enter Tryd.func4, Tryd.ntmps4
  have rA1 := heap_alloc_new w (.cells #[.int .i64 k, .string hl, .int .i64 hn, .int .i64 z0, .int .i64 z1, .int .i64 z2, .int .i64 z3, .int .i64 z4, .int .i64 z5, .int .i64 z6, .int .i64 z7] 24)
  have hka1 := hk0.alloc (.cells #[.int .i64 k, .string hl, .int .i64 hn, .int .i64 z0, .int .i64 z1, .int .i64 z2, .int .i64 z3, .int .i64 z4, .int .i64 z5, .int .i64 z6, .int .i64 z7] 24)
  have rAa2 := block_alloc rA1 (.cells #[.int .i64 k2, .string hl2, .int .i64 hn2, .int .i64 v0, .int .i64 v1, .int .i64 v2, .int .i64 v3, .int .i64 v4, .int .i64 v5, .int .i64 v6, .int .i64 v7] 24)
  have rB2 := heap_alloc_new (w.alloc (.cells #[.int .i64 k, .string hl, .int .i64 hn, .int .i64 z0, .int .i64 z1, .int .i64 z2, .int .i64 z3, .int .i64 z4, .int .i64 z5, .int .i64 z6, .int .i64 z7] 24)) (.cells #[.int .i64 k2, .string hl2, .int .i64 hn2, .int .i64 v0, .int .i64 v1, .int .i64 v2, .int .i64 v3, .int .i64 v4, .int .i64 v5, .int .i64 v6, .int .i64 v7] 24)
  have hka2 := hka1.alloc (.cells #[.int .i64 k2, .string hl2, .int .i64 hn2, .int .i64 v0, .int .i64 v1, .int .i64 v2, .int .i64 v3, .int .i64 v4, .int .i64 v5, .int .i64 v6, .int .i64 v7] 24)
  rw [World.size_alloc] at rB2
  obtain ⟨cA0, cA1, cA2, cA3, cA4, cA5, cA6, cA7, cA8, cA9, cA10⟩ := host_cells rAa2
  obtain ⟨cB0, cB1, cB2, cB3, cB4, cB5, cB6, cB7, cB8, cB9, cB10⟩ := host_cells rB2
  go_wp2_with fail
  refine (awake7 ((w.alloc (.cells #[.int .i64 k, .string hl, .int .i64 hn, .int .i64 z0, .int .i64 z1, .int .i64 z2, .int .i64 z3, .int .i64 z4, .int .i64 z5, .int .i64 z6, .int .i64 z7] 24)).alloc (.cells #[.int .i64 k2, .string hl2, .int .i64 hn2, .int .i64 v0, .int .i64 v1, .int .i64 v2, .int .i64 v3, .int .i64 v4, .int .i64 v5, .int .i64 v6, .int .i64 v7] 24)) hka2.good).mono ?_
  rintro e w1 ⟨rfl, hb1⟩
  have hkc1 := hka2.step hb1
  clear cA0 cA1 cA2 cA3 cA4 cA5 cA6 cA7 cA8 cA9 cA10 cB0 cB1 cB2 cB3 cB4 cB5 cB6 cB7 cB8 cB9 cB10
  have rA3 := block_below rAa2 hb1 (lt_of_block rAa2)
  have rB4 := block_below rB2 hb1 (lt_of_block rB2)
  obtain ⟨cA0, cA1, cA2, cA3, cA4, cA5, cA6, cA7, cA8, cA9, cA10⟩ := host_cells rA3
  obtain ⟨cB0, cB1, cB2, cB3, cB4, cB5, cB6, cB7, cB8, cB9, cB10⟩ := host_cells rB4
  go_wp2
  go_ret
  exact ⟨rfl, hkc1.below⟩

set_option maxHeartbeats 8000000 in
set_option maxRecDepth 100000 in
theorem apart_ma (k : Int) (hl : ByteArray) (hn z0 z1 z2 z3 z4 z5 z6 z7 : Int) (k2 : Int) (hl2 : ByteArray) (hn2 v0 v1 v2 v3 v4 v5 v6 v7 : Int) (i : Int) (hhl : hl.size ≤ 300) (hhl2 : hl2.size ≤ 300)
    (cM : ∀ w1, Good w1 → Calls Tryd.prog 11 #[.agg #[.int .i64 k, .string hl, .int .i64 hn, .int .i64 z0, .int .i64 z1, .int .i64 z2, .int .i64 z3, .int .i64 z4, .int .i64 z5, .int .i64 z6, .int .i64 z7]] w1 fun e w' => e = .returned (.bool false) ∧ Below w1.heap.size w1 w') (w : World) (hG : Good w) :
    Calls Tryd.prog 4 #[.agg #[.int .i64 k, .string hl, .int .i64 hn, .int .i64 z0, .int .i64 z1, .int .i64 z2, .int .i64 z3, .int .i64 z4, .int .i64 z5, .int .i64 z6, .int .i64 z7], .agg #[.int .i64 k2, .string hl2, .int .i64 hn2, .int .i64 v0, .int .i64 v1, .int .i64 v2, .int .i64 v3, .int .i64 v4, .int .i64 v5, .int .i64 v6, .int .i64 v7], .int .i64 i] w fun e w' => e = .returned (.bool true) ∧ Below w.heap.size w w' := by
  have d1 : decide ((300 : Int) < (hl.size : Int)) = false := decide_eq_false (by omega)
  have d2 : decide ((300 : Int) < (hl2.size : Int)) = false := decide_eq_false (by omega)
  have hk0 := Ok.refl hG
  go_enter Tryd.func4, Tryd.ntmps4
  have rA1 := heap_alloc_new w (.cells #[.int .i64 k, .string hl, .int .i64 hn, .int .i64 z0, .int .i64 z1, .int .i64 z2, .int .i64 z3, .int .i64 z4, .int .i64 z5, .int .i64 z6, .int .i64 z7] 24)
  have hka1 := hk0.alloc (.cells #[.int .i64 k, .string hl, .int .i64 hn, .int .i64 z0, .int .i64 z1, .int .i64 z2, .int .i64 z3, .int .i64 z4, .int .i64 z5, .int .i64 z6, .int .i64 z7] 24)
  have rAa2 := block_alloc rA1 (.cells #[.int .i64 k2, .string hl2, .int .i64 hn2, .int .i64 v0, .int .i64 v1, .int .i64 v2, .int .i64 v3, .int .i64 v4, .int .i64 v5, .int .i64 v6, .int .i64 v7] 24)
  have rB2 := heap_alloc_new (w.alloc (.cells #[.int .i64 k, .string hl, .int .i64 hn, .int .i64 z0, .int .i64 z1, .int .i64 z2, .int .i64 z3, .int .i64 z4, .int .i64 z5, .int .i64 z6, .int .i64 z7] 24)) (.cells #[.int .i64 k2, .string hl2, .int .i64 hn2, .int .i64 v0, .int .i64 v1, .int .i64 v2, .int .i64 v3, .int .i64 v4, .int .i64 v5, .int .i64 v6, .int .i64 v7] 24)
  have hka2 := hka1.alloc (.cells #[.int .i64 k2, .string hl2, .int .i64 hn2, .int .i64 v0, .int .i64 v1, .int .i64 v2, .int .i64 v3, .int .i64 v4, .int .i64 v5, .int .i64 v6, .int .i64 v7] 24)
  rw [World.size_alloc] at rB2
  obtain ⟨cA0, cA1, cA2, cA3, cA4, cA5, cA6, cA7, cA8, cA9, cA10⟩ := host_cells rAa2
  obtain ⟨cB0, cB1, cB2, cB3, cB4, cB5, cB6, cB7, cB8, cB9, cB10⟩ := host_cells rB2
  go_wp2_with fail
  refine (awake7 ((w.alloc (.cells #[.int .i64 k, .string hl, .int .i64 hn, .int .i64 z0, .int .i64 z1, .int .i64 z2, .int .i64 z3, .int .i64 z4, .int .i64 z5, .int .i64 z6, .int .i64 z7] 24)).alloc (.cells #[.int .i64 k2, .string hl2, .int .i64 hn2, .int .i64 v0, .int .i64 v1, .int .i64 v2, .int .i64 v3, .int .i64 v4, .int .i64 v5, .int .i64 v6, .int .i64 v7] 24)) hka2.good).mono ?_
  rintro e w1 ⟨rfl, hb1⟩
  have hkc1 := hka2.step hb1
  clear cA0 cA1 cA2 cA3 cA4 cA5 cA6 cA7 cA8 cA9 cA10 cB0 cB1 cB2 cB3 cB4 cB5 cB6 cB7 cB8 cB9 cB10
  have rA3 := block_below rAa2 hb1 (lt_of_block rAa2)
  have rB4 := block_below rB2 hb1 (lt_of_block rB2)
  obtain ⟨cA0, cA1, cA2, cA3, cA4, cA5, cA6, cA7, cA8, cA9, cA10⟩ := host_cells rA3
  obtain ⟨cB0, cB1, cB2, cB3, cB4, cB5, cB6, cB7, cB8, cB9, cB10⟩ := host_cells rB4
  go_wp2_with fail
  refine (cM w1 hkc1.good).mono ?_
  rintro e w2 ⟨rfl, hb2⟩
  have hkc2 := hkc1.step hb2
  clear cA0 cA1 cA2 cA3 cA4 cA5 cA6 cA7 cA8 cA9 cA10 cB0 cB1 cB2 cB3 cB4 cB5 cB6 cB7 cB8 cB9 cB10
  have rA5 := block_below rA3 hb2 (lt_of_block rA3)
  have rB6 := block_below rB4 hb2 (lt_of_block rB4)
  obtain ⟨cA0, cA1, cA2, cA3, cA4, cA5, cA6, cA7, cA8, cA9, cA10⟩ := host_cells rA5
  obtain ⟨cB0, cB1, cB2, cB3, cB4, cB5, cB6, cB7, cB8, cB9, cB10⟩ := host_cells rB6
  go_wp2
  go_ret
  exact ⟨rfl, hkc2.below⟩

set_option maxHeartbeats 8000000 in
set_option maxRecDepth 100000 in
theorem apart_mb (k : Int) (hl : ByteArray) (hn z0 z1 z2 z3 z4 z5 z6 z7 : Int) (k2 : Int) (hl2 : ByteArray) (hn2 v0 v1 v2 v3 v4 v5 v6 v7 : Int) (i : Int) (hhl : hl.size ≤ 300) (hhl2 : hl2.size ≤ 300)
    (cM : ∀ w1, Good w1 → Calls Tryd.prog 11 #[.agg #[.int .i64 k, .string hl, .int .i64 hn, .int .i64 z0, .int .i64 z1, .int .i64 z2, .int .i64 z3, .int .i64 z4, .int .i64 z5, .int .i64 z6, .int .i64 z7]] w1 fun e w' => e = .returned (.bool true) ∧ Below w1.heap.size w1 w')
    (cN : ∀ w1, Good w1 → Calls Tryd.prog 11 #[.agg #[.int .i64 k2, .string hl2, .int .i64 hn2, .int .i64 v0, .int .i64 v1, .int .i64 v2, .int .i64 v3, .int .i64 v4, .int .i64 v5, .int .i64 v6, .int .i64 v7]] w1 fun e w' => e = .returned (.bool false) ∧ Below w1.heap.size w1 w') (w : World) (hG : Good w) :
    Calls Tryd.prog 4 #[.agg #[.int .i64 k, .string hl, .int .i64 hn, .int .i64 z0, .int .i64 z1, .int .i64 z2, .int .i64 z3, .int .i64 z4, .int .i64 z5, .int .i64 z6, .int .i64 z7], .agg #[.int .i64 k2, .string hl2, .int .i64 hn2, .int .i64 v0, .int .i64 v1, .int .i64 v2, .int .i64 v3, .int .i64 v4, .int .i64 v5, .int .i64 v6, .int .i64 v7], .int .i64 i] w fun e w' => e = .returned (.bool true) ∧ Below w.heap.size w w' := by
  have d1 : decide ((300 : Int) < (hl.size : Int)) = false := decide_eq_false (by omega)
  have d2 : decide ((300 : Int) < (hl2.size : Int)) = false := decide_eq_false (by omega)
  have hk0 := Ok.refl hG
  go_enter Tryd.func4, Tryd.ntmps4
  have rA1 := heap_alloc_new w (.cells #[.int .i64 k, .string hl, .int .i64 hn, .int .i64 z0, .int .i64 z1, .int .i64 z2, .int .i64 z3, .int .i64 z4, .int .i64 z5, .int .i64 z6, .int .i64 z7] 24)
  have hka1 := hk0.alloc (.cells #[.int .i64 k, .string hl, .int .i64 hn, .int .i64 z0, .int .i64 z1, .int .i64 z2, .int .i64 z3, .int .i64 z4, .int .i64 z5, .int .i64 z6, .int .i64 z7] 24)
  have rAa2 := block_alloc rA1 (.cells #[.int .i64 k2, .string hl2, .int .i64 hn2, .int .i64 v0, .int .i64 v1, .int .i64 v2, .int .i64 v3, .int .i64 v4, .int .i64 v5, .int .i64 v6, .int .i64 v7] 24)
  have rB2 := heap_alloc_new (w.alloc (.cells #[.int .i64 k, .string hl, .int .i64 hn, .int .i64 z0, .int .i64 z1, .int .i64 z2, .int .i64 z3, .int .i64 z4, .int .i64 z5, .int .i64 z6, .int .i64 z7] 24)) (.cells #[.int .i64 k2, .string hl2, .int .i64 hn2, .int .i64 v0, .int .i64 v1, .int .i64 v2, .int .i64 v3, .int .i64 v4, .int .i64 v5, .int .i64 v6, .int .i64 v7] 24)
  have hka2 := hka1.alloc (.cells #[.int .i64 k2, .string hl2, .int .i64 hn2, .int .i64 v0, .int .i64 v1, .int .i64 v2, .int .i64 v3, .int .i64 v4, .int .i64 v5, .int .i64 v6, .int .i64 v7] 24)
  rw [World.size_alloc] at rB2
  obtain ⟨cA0, cA1, cA2, cA3, cA4, cA5, cA6, cA7, cA8, cA9, cA10⟩ := host_cells rAa2
  obtain ⟨cB0, cB1, cB2, cB3, cB4, cB5, cB6, cB7, cB8, cB9, cB10⟩ := host_cells rB2
  go_wp2_with fail
  refine (awake7 ((w.alloc (.cells #[.int .i64 k, .string hl, .int .i64 hn, .int .i64 z0, .int .i64 z1, .int .i64 z2, .int .i64 z3, .int .i64 z4, .int .i64 z5, .int .i64 z6, .int .i64 z7] 24)).alloc (.cells #[.int .i64 k2, .string hl2, .int .i64 hn2, .int .i64 v0, .int .i64 v1, .int .i64 v2, .int .i64 v3, .int .i64 v4, .int .i64 v5, .int .i64 v6, .int .i64 v7] 24)) hka2.good).mono ?_
  rintro e w1 ⟨rfl, hb1⟩
  have hkc1 := hka2.step hb1
  clear cA0 cA1 cA2 cA3 cA4 cA5 cA6 cA7 cA8 cA9 cA10 cB0 cB1 cB2 cB3 cB4 cB5 cB6 cB7 cB8 cB9 cB10
  have rA3 := block_below rAa2 hb1 (lt_of_block rAa2)
  have rB4 := block_below rB2 hb1 (lt_of_block rB2)
  obtain ⟨cA0, cA1, cA2, cA3, cA4, cA5, cA6, cA7, cA8, cA9, cA10⟩ := host_cells rA3
  obtain ⟨cB0, cB1, cB2, cB3, cB4, cB5, cB6, cB7, cB8, cB9, cB10⟩ := host_cells rB4
  go_wp2_with fail
  refine (cM w1 hkc1.good).mono ?_
  rintro e w2 ⟨rfl, hb2⟩
  have hkc2 := hkc1.step hb2
  clear cA0 cA1 cA2 cA3 cA4 cA5 cA6 cA7 cA8 cA9 cA10 cB0 cB1 cB2 cB3 cB4 cB5 cB6 cB7 cB8 cB9 cB10
  have rA5 := block_below rA3 hb2 (lt_of_block rA3)
  have rB6 := block_below rB4 hb2 (lt_of_block rB4)
  obtain ⟨cA0, cA1, cA2, cA3, cA4, cA5, cA6, cA7, cA8, cA9, cA10⟩ := host_cells rA5
  obtain ⟨cB0, cB1, cB2, cB3, cB4, cB5, cB6, cB7, cB8, cB9, cB10⟩ := host_cells rB6
  go_wp2_with fail
  refine (cN w2 hkc2.good).mono ?_
  rintro e w3 ⟨rfl, hb3⟩
  have hkc3 := hkc2.step hb3
  clear cA0 cA1 cA2 cA3 cA4 cA5 cA6 cA7 cA8 cA9 cA10 cB0 cB1 cB2 cB3 cB4 cB5 cB6 cB7 cB8 cB9 cB10
  have rA7 := block_below rA5 hb3 (lt_of_block rA5)
  have rB8 := block_below rB6 hb3 (lt_of_block rB6)
  obtain ⟨cA0, cA1, cA2, cA3, cA4, cA5, cA6, cA7, cA8, cA9, cA10⟩ := host_cells rA7
  obtain ⟨cB0, cB1, cB2, cB3, cB4, cB5, cB6, cB7, cB8, cB9, cB10⟩ := host_cells rB8
  go_wp2
  go_ret
  exact ⟨rfl, hkc3.below⟩

theorem law_HostApart (a b : HostT) (i : Int) (_ha : a.Wf) (_hb : b.Wf) (_hi : (Lit.int .i64 i).wf = true) (w : World) (hG : Good w) :
    Calls Tryd.prog 4 #[a.val, b.val, .int .i64 i] w fun e w' => e = .returned (.bool true) ∧ Below w.heap.size w w' := by
  by_cases hal : a.l.size ≤ 300
  · by_cases hbl : b.l.size ≤ 300
    · have cM := fun w1 (hG : Good w1) => host_May_any a (by omega) w1 hG
      have cN := fun w1 (hG : Good w1) => host_May_any b (by omega) w1 hG
      cases hoa : ofH a with
      | none =>
        simp only [hoa, Option.isSome_none] at cM
        obtain ⟨k, hl, hn, z0, z1, z2, z3, z4, z5, z6, z7⟩ := a
        obtain ⟨k2, hl2, hn2, v0, v1, v2, v3, v4, v5, v6, v7⟩ := b
        exact apart_ma k hl hn z0 z1 z2 z3 z4 z5 z6 z7 k2 hl2 hn2 v0 v1 v2 v3 v4 v5 v6 v7 i hal hbl cM w hG
      | some A =>
        simp only [hoa, Option.isSome_some] at cM
        obtain ⟨hA, okA⟩ := ofH_some hoa
        cases hob : ofH b with
        | none =>
          simp only [hob, Option.isSome_none] at cN
          obtain ⟨k, hl, hn, z0, z1, z2, z3, z4, z5, z6, z7⟩ := a
          obtain ⟨k2, hl2, hn2, v0, v1, v2, v3, v4, v5, v6, v7⟩ := b
          exact apart_mb k hl hn z0 z1 z2 z3 z4 z5 z6 z7 k2 hl2 hn2 v0 v1 v2 v3 v4 v5 v6 v7 i hal hbl cM cN w hG
        | some B =>
          simp only [hob, Option.isSome_some] at cN
          obtain ⟨hB, okB⟩ := ofH_some hob
          have cS := fun w1 (hG : Good w1) => host_Show_any a (by omega) w1 hG
          have cR := fun w1 (hG : Good w1) => host_Show_any b (by omega) w1 hG
          have eA : showH a = A.text := by rw [hA, show_ok okA]
          have eB : showH b = B.text := by rw [hB, show_ok okB]
          have hinj := text_inj okA okB
          rw [← hA, ← hB] at hinj
          simp only [eA] at cS
          simp only [eB] at cR
          have hT : (⟨A.text.toArray⟩ : ByteArray).toList.isEmpty = false := by
            rw [ba_toList, mk_toList]
            cases h : A.text with
            | nil => exact absurd h (text_ne okA)
            | cons a t => rfl
          have hTs : (⟨A.text.toArray⟩ : ByteArray).size ≤ 1000000 := by rw [size_list, mk_toList]; exact text_le okA
          have hcs := fine_at okA
          by_cases hab : a = b
          · subst hab
            obtain rfl : A = B := Option.some.inj (hoa.symm.trans hob)
            generalize (⟨A.text.toArray⟩ : ByteArray) = T at *
            obtain ⟨k, hl, hn, z0, z1, z2, z3, z4, z5, z6, z7⟩ := a
            exact apart_y k hl hn z0 z1 z2 z3 z4 z5 z6 z7 hal i T hT hTs hcs w hG cM cN cS cR
          · have hTU : ((⟨A.text.toArray⟩ : ByteArray).toList == (⟨B.text.toArray⟩ : ByteArray).toList) = false := by
              rw [ba_toList, ba_toList, mk_toList, mk_toList, beq_eq_false_iff_ne]
              exact fun e => hab (hinj e)
            have hE := eq_host_ne hab
            generalize (⟨A.text.toArray⟩ : ByteArray) = T at *
            generalize (⟨B.text.toArray⟩ : ByteArray) = U at *
            obtain ⟨k, hl, hn, z0, z1, z2, z3, z4, z5, z6, z7⟩ := a
            obtain ⟨k2, hl2, hn2, v0, v1, v2, v3, v4, v5, v6, v7⟩ := b
            exact apart_n k hl hn z0 z1 z2 z3 z4 z5 z6 z7 hal k2 hl2 hn2 v0 v1 v2 v3 v4 v5 v6 v7 hbl i T hT hTs hcs U hTU hE w hG cM cN cS cR
    · obtain ⟨k, hl, hn, z0, z1, z2, z3, z4, z5, z6, z7⟩ := a
      obtain ⟨k2, hl2, hn2, v0, v1, v2, v3, v4, v5, v6, v7⟩ := b
      exact apart_lb k hl hn z0 z1 z2 z3 z4 z5 z6 z7 k2 hl2 hn2 v0 v1 v2 v3 v4 v5 v6 v7 i hal hbl w hG
  · obtain ⟨k, hl, hn, z0, z1, z2, z3, z4, z5, z6, z7⟩ := a
    obtain ⟨k2, hl2, hn2, v0, v1, v2, v3, v4, v5, v6, v7⟩ := b
    exact apart_la k hl hn z0 z1 z2 z3 z4 z5 z6 z7 k2 hl2 hn2 v0 v1 v2 v3 v4 v5 v6 v7 i hal w hG

end Go.Proofs.YtcpjonglfnakpaaDoor
