/- The law HostCase, its other cases, and joined. -/
import Derived.Test.YtcpjonglfnakpaaDoorLaw7c
import Derived.OpenShut
namespace Go.Proofs.YtcpjonglfnakpaaDoor
open Go.RowKit Go.Proofs.YtcpjonglfnakpaaDoorW.PrintWords
set_option maxHeartbeats 8000000 in
set_option maxRecDepth 100000 in
theorem case_4 (s t : ByteArray) (c : UInt8) (hs : s.size ≤ 150) (ht : t.size ≤ 150) (k : Int) (hl : ByteArray) (hn z0 z1 z2 z3 z4 z5 z6 z7 k2 : Int) (hl2 : ByteArray) (hn2 v0 v1 v2 v3 v4 v5 v6 v7 : Int) (is no : Bool) (w : World) (hG : Good w)
    (cA : ∀ w1, Good w1 → Calls Tryd.prog 10 #[.string s] w1 fun e w' => e = .returned (.tuple #[.agg #[.int .i64 k, .string hl, .int .i64 hn, .int .i64 z0, .int .i64 z1, .int .i64 z2, .int .i64 z3, .int .i64 z4, .int .i64 z5, .int .i64 z6, .int .i64 z7], .bool is]) ∧ Below w1.heap.size w1 w')
    (cB : ∀ w1, Good w1 → Calls Tryd.prog 10 #[.string ⟨(s.data.toList.map upA).toArray⟩] w1 fun e w' => e = .returned (.tuple #[.agg #[.int .i64 k, .string hl, .int .i64 hn, .int .i64 z0, .int .i64 z1, .int .i64 z2, .int .i64 z3, .int .i64 z4, .int .i64 z5, .int .i64 z6, .int .i64 z7], .bool is]) ∧ Below w1.heap.size w1 w')
    (cC : ∀ w1, Good w1 → Calls Tryd.prog 10 #[.string (s ++ ⟨#[c]⟩ ++ t)] w1 fun e w' => e = .returned (.tuple #[.agg #[.int .i64 k2, .string hl2, .int .i64 hn2, .int .i64 v0, .int .i64 v1, .int .i64 v2, .int .i64 v3, .int .i64 v4, .int .i64 v5, .int .i64 v6, .int .i64 v7], .bool false]) ∧ Below w1.heap.size w1 w') (q0 : decide ((c.toNat : Int) ≤ 32) = false) (q1 : decide ((127 : Int) ≤ (c.toNat : Int)) = false) (q2 : ((c.toNat : Int) == 47) = false) (q3 : ((c.toNat : Int) == 37) = false) (q4 : ((c.toNat : Int) == 64) = true) :
    Calls Tryd.prog 5 #[.string s, .int .u8 c.toNat, .string t] w fun e w' => e = .returned (.bool true) ∧ Below w.heap.size w w' := by
  have d1 : decide ((150 : Int) < (s.size : Int)) = false := decide_eq_false (by omega)
  have d2 : decide ((150 : Int) < (t.size : Int)) = false := decide_eq_false (by omega)
  have hlen : s.data.toList.length = s.size := (size_list s).symm
  have hq : (is == is) = true := beq_self_eq_true is
  have hE := fun w => eqHost k hl hn z0 z1 z2 z3 z4 z5 z6 z7 k hl hn z0 z1 z2 z3 z4 z5 z6 z7 w
  simp only [beq_self_eq_true, Bool.and_true] at hE
  unfold hV at hE
  have hk0 := Ok.refl hG
  go_enter Tryd.func5, Tryd.ntmps5
  go_wp2_with fail
  refine (awake7 w hk0.good).mono ?_
  rintro e w1 ⟨rfl, hb1⟩
  have hkc1 := hk0.step hb1
  obtain ⟨cap, w4, hcv, hB4, hb4⟩ := ByteBlk.made (P := Tryd.prog) w1 9 32 5 s Tryd.underlying9 Tryd.underlying32 Tryd.underlying5
  have hk4 := hkc1.step hb4
  have hB4lt := hB4.lt
  obtain ⟨g, hg⟩ : ∃ g, w1.heap.size = g := ⟨_, rfl⟩
  rw [hg] at hB4 hcv hB4lt
  have hgw : w.heap.size ≤ g := by rw [← hg]; exact hkc1.below.size
  go_wp2
  go_loopw [9] (fun i wr => ∃ k : Nat, k ≤ s.size ∧ i = .int .i64 k ∧ ByteBlk wr g 5 ((s.data.toList.take k).map upA ++ s.data.toList.drop k) ∧ Ok w wr) (fun i _ => s.size - (intOf i).toNat)
  case atStart => exact ⟨0, by omega, rfl, by simpa using hB4, hk4⟩
  case round =>
    obtain ⟨wy, rfl⟩ : ∃ wy, wy = wr := ⟨_, rfl⟩
    obtain ⟨j, hj, rfl, hB5, hk5⟩ := hrel
    clear hB4 hk4 hcv
    by_cases hjs : j < s.size
    · obtain ⟨b, hb⟩ : ∃ b, s.data.toList[j]? = some b := ⟨_, List.getElem?_eq_getElem (by omega)⟩
      have hlk : j < ((s.data.toList.take j).map upA ++ s.data.toList.drop j).length := by simp; omega
      have hcell := hB5.cell (part_at hb)
      have hfree := hB5.free hlk
      have hset := hB5.set hlk (upA b)
      rw [part_step hb] at hset
      have hb6 : ∀ v, Ok w (wy.setCell ⟨g, j, none⟩ v) := fun v => ⟨hk5.below.setCell hgw _, hG.below (hk5.below.setCell hgw _)⟩
      have hcc : Hid (upA b = b → ByteBlk wy g 5 ((s.data.toList.take (j + 1)).map upA ++ s.data.toList.drop (j + 1))) := fun h => by rw [← part_same hb h]; exact hB5
      clear hb cA cB cC hE
      have c256 := b.toNat_lt
      by_cases h1 : 97 ≤ b.toNat
      · by_cases h2 : b.toNat ≤ 122
        · have hw := upA_wrap b.toNat c256 h1 h2
          rw [UInt8.ofNat_toNat] at hw
          go_wp2
          exact ⟨⟨j + 1, by omega, by go_num, hset, hb6 _⟩, by simp [intOf]; omega⟩
        · go_wp2
          exact ⟨⟨j + 1, by omega, by go_num, hcc.out (upA_small (by omega)), hk5⟩, by simp [intOf]; omega⟩
      · go_wp2
        exact ⟨⟨j + 1, by omega, by go_num, hcc.out (upA_small (by omega)), hk5⟩, by simp [intOf]; omega⟩
    · obtain rfl : j = s.size := by omega
      rw [List.take_of_length_le (by omega), List.drop_eq_nil_of_le (by omega), List.append_nil] at hB5
      go_wp2_with fail
      refine (cA wy hk5.good).mono ?_
      rintro e w11 ⟨rfl, hb11⟩
      have hkc11 := hk5.step hb11
      have hB6 := hB5.below hb11 hB5.lt
      have hst := (hB6.below ((Below.refl _ _).alloc (Nat.le_refl _) (.cells #[.int .i64 k, .string hl, .int .i64 hn, .int .i64 z0, .int .i64 z1, .int .i64 z2, .int .i64 z3, .int .i64 z4, .int .i64 z5, .int .i64 z6, .int .i64 z7] 24)) hB6.lt).str (P := Tryd.prog) (src := 32) (dst := 9) Tryd.underlying32 Tryd.underlying5 Tryd.underlying9 (n := s.size) (cap := cap) (by rw [List.length_map]; exact hlen)
      have rA1 := heap_alloc_new w11 (.cells #[.int .i64 k, .string hl, .int .i64 hn, .int .i64 z0, .int .i64 z1, .int .i64 z2, .int .i64 z3, .int .i64 z4, .int .i64 z5, .int .i64 z6, .int .i64 z7] 24)
      have hka1 := hkc11.alloc (.cells #[.int .i64 k, .string hl, .int .i64 hn, .int .i64 z0, .int .i64 z1, .int .i64 z2, .int .i64 z3, .int .i64 z4, .int .i64 z5, .int .i64 z6, .int .i64 z7] 24)
      go_wp2_with fail
      refine (cB (w11.alloc (.cells #[.int .i64 k, .string hl, .int .i64 hn, .int .i64 z0, .int .i64 z1, .int .i64 z2, .int .i64 z3, .int .i64 z4, .int .i64 z5, .int .i64 z6, .int .i64 z7] 24)) hka1.good).mono ?_
      rintro e w12 ⟨rfl, hb12⟩
      have hkc12 := hka1.step hb12
      have rA2 := block_below rA1 hb12 (lt_of_block rA1)
      have rAa3 := block_alloc rA2 (.cells #[.int .i64 k, .string hl, .int .i64 hn, .int .i64 z0, .int .i64 z1, .int .i64 z2, .int .i64 z3, .int .i64 z4, .int .i64 z5, .int .i64 z6, .int .i64 z7] 24)
      have rB3 := heap_alloc_new w12 (.cells #[.int .i64 k, .string hl, .int .i64 hn, .int .i64 z0, .int .i64 z1, .int .i64 z2, .int .i64 z3, .int .i64 z4, .int .i64 z5, .int .i64 z6, .int .i64 z7] 24)
      have hka3 := hkc12.alloc (.cells #[.int .i64 k, .string hl, .int .i64 hn, .int .i64 z0, .int .i64 z1, .int .i64 z2, .int .i64 z3, .int .i64 z4, .int .i64 z5, .int .i64 z6, .int .i64 z7] 24)
      obtain ⟨cA0, cA1, cA2, cA3, cA4, cA5, cA6, cA7, cA8, cA9, cA10⟩ := host_cells rAa3
      obtain ⟨cB0, cB1, cB2, cB3, cB4, cB5, cB6, cB7, cB8, cB9, cB10⟩ := host_cells rB3
      have hone := str_one c (heap_alloc_new (w12.alloc (.cells #[.int .i64 k, .string hl, .int .i64 hn, .int .i64 z0, .int .i64 z1, .int .i64 z2, .int .i64 z3, .int .i64 z4, .int .i64 z5, .int .i64 z6, .int .i64 z7] 24)) (.cells #[.int .u8 c.toNat] 5)) Tryd.underlying32 Tryd.underlying5 Tryd.underlying9
      rw [World.size_alloc] at hone
      have rAa4 := block_alloc rAa3 (.cells #[.int .u8 c.toNat] 5)
      have rBa4 := block_alloc rB3 (.cells #[.int .u8 c.toNat] 5)
      have rO4 := heap_alloc_new (w12.alloc (.cells #[.int .i64 k, .string hl, .int .i64 hn, .int .i64 z0, .int .i64 z1, .int .i64 z2, .int .i64 z3, .int .i64 z4, .int .i64 z5, .int .i64 z6, .int .i64 z7] 24)) (.cells #[.int .u8 c.toNat] 5)
      have hka4 := hka3.alloc (.cells #[.int .u8 c.toNat] 5)
      go_wp2_with fail
      refine (cC ((w12.alloc (.cells #[.int .i64 k, .string hl, .int .i64 hn, .int .i64 z0, .int .i64 z1, .int .i64 z2, .int .i64 z3, .int .i64 z4, .int .i64 z5, .int .i64 z6, .int .i64 z7] 24)).alloc (.cells #[.int .u8 c.toNat] 5)) hka4.good).mono ?_
      rintro e w13 ⟨rfl, hb13⟩
      have hkc13 := hka4.step hb13
      clear cA0 cA1 cA2 cA3 cA4 cA5 cA6 cA7 cA8 cA9 cA10 cB0 cB1 cB2 cB3 cB4 cB5 cB6 cB7 cB8 cB9 cB10
      have rA5 := block_below rAa4 hb13 (lt_of_block rAa4)
      have rB6 := block_below rBa4 hb13 (lt_of_block rBa4)
      have rAa7 := block_alloc rA5 (.cells #[.int .i64 k2, .string hl2, .int .i64 hn2, .int .i64 v0, .int .i64 v1, .int .i64 v2, .int .i64 v3, .int .i64 v4, .int .i64 v5, .int .i64 v6, .int .i64 v7] 24)
      have rBa7 := block_alloc rB6 (.cells #[.int .i64 k2, .string hl2, .int .i64 hn2, .int .i64 v0, .int .i64 v1, .int .i64 v2, .int .i64 v3, .int .i64 v4, .int .i64 v5, .int .i64 v6, .int .i64 v7] 24)
      have rC7 := heap_alloc_new w13 (.cells #[.int .i64 k2, .string hl2, .int .i64 hn2, .int .i64 v0, .int .i64 v1, .int .i64 v2, .int .i64 v3, .int .i64 v4, .int .i64 v5, .int .i64 v6, .int .i64 v7] 24)
      have hka7 := hkc13.alloc (.cells #[.int .i64 k2, .string hl2, .int .i64 hn2, .int .i64 v0, .int .i64 v1, .int .i64 v2, .int .i64 v3, .int .i64 v4, .int .i64 v5, .int .i64 v6, .int .i64 v7] 24)
      obtain ⟨cA0, cA1, cA2, cA3, cA4, cA5, cA6, cA7, cA8, cA9, cA10⟩ := host_cells rAa7
      obtain ⟨cB0, cB1, cB2, cB3, cB4, cB5, cB6, cB7, cB8, cB9, cB10⟩ := host_cells rBa7
      obtain ⟨cC0, cC1, cC2, cC3, cC4, cC5, cC6, cC7, cC8, cC9, cC10⟩ := host_cells rC7
      go_wp2
      go_ret
      exact ⟨rfl, hka7.below⟩

set_option maxHeartbeats 8000000 in
set_option maxRecDepth 100000 in
theorem case_5 (s t : ByteArray) (c : UInt8) (hs : s.size ≤ 150) (ht : t.size ≤ 150) (k : Int) (hl : ByteArray) (hn z0 z1 z2 z3 z4 z5 z6 z7 k2 : Int) (hl2 : ByteArray) (hn2 v0 v1 v2 v3 v4 v5 v6 v7 : Int) (is no : Bool) (w : World) (hG : Good w)
    (cA : ∀ w1, Good w1 → Calls Tryd.prog 10 #[.string s] w1 fun e w' => e = .returned (.tuple #[.agg #[.int .i64 k, .string hl, .int .i64 hn, .int .i64 z0, .int .i64 z1, .int .i64 z2, .int .i64 z3, .int .i64 z4, .int .i64 z5, .int .i64 z6, .int .i64 z7], .bool is]) ∧ Below w1.heap.size w1 w')
    (cB : ∀ w1, Good w1 → Calls Tryd.prog 10 #[.string ⟨(s.data.toList.map upA).toArray⟩] w1 fun e w' => e = .returned (.tuple #[.agg #[.int .i64 k, .string hl, .int .i64 hn, .int .i64 z0, .int .i64 z1, .int .i64 z2, .int .i64 z3, .int .i64 z4, .int .i64 z5, .int .i64 z6, .int .i64 z7], .bool is]) ∧ Below w1.heap.size w1 w')
    (cC : ∀ w1, Good w1 → Calls Tryd.prog 10 #[.string (s ++ ⟨#[c]⟩ ++ t)] w1 fun e w' => e = .returned (.tuple #[.agg #[.int .i64 k2, .string hl2, .int .i64 hn2, .int .i64 v0, .int .i64 v1, .int .i64 v2, .int .i64 v3, .int .i64 v4, .int .i64 v5, .int .i64 v6, .int .i64 v7], .bool false]) ∧ Below w1.heap.size w1 w') (q0 : decide ((c.toNat : Int) ≤ 32) = false) (q1 : decide ((127 : Int) ≤ (c.toNat : Int)) = false) (q2 : ((c.toNat : Int) == 47) = false) (q3 : ((c.toNat : Int) == 37) = false) (q4 : ((c.toNat : Int) == 64) = false) (q5 : ((c.toNat : Int) == 63) = true) :
    Calls Tryd.prog 5 #[.string s, .int .u8 c.toNat, .string t] w fun e w' => e = .returned (.bool true) ∧ Below w.heap.size w w' := by
  have d1 : decide ((150 : Int) < (s.size : Int)) = false := decide_eq_false (by omega)
  have d2 : decide ((150 : Int) < (t.size : Int)) = false := decide_eq_false (by omega)
  have hlen : s.data.toList.length = s.size := (size_list s).symm
  have hq : (is == is) = true := beq_self_eq_true is
  have hE := fun w => eqHost k hl hn z0 z1 z2 z3 z4 z5 z6 z7 k hl hn z0 z1 z2 z3 z4 z5 z6 z7 w
  simp only [beq_self_eq_true, Bool.and_true] at hE
  unfold hV at hE
  have hk0 := Ok.refl hG
  go_enter Tryd.func5, Tryd.ntmps5
  go_wp2_with fail
  refine (awake7 w hk0.good).mono ?_
  rintro e w1 ⟨rfl, hb1⟩
  have hkc1 := hk0.step hb1
  obtain ⟨cap, w4, hcv, hB4, hb4⟩ := ByteBlk.made (P := Tryd.prog) w1 9 32 5 s Tryd.underlying9 Tryd.underlying32 Tryd.underlying5
  have hk4 := hkc1.step hb4
  have hB4lt := hB4.lt
  obtain ⟨g, hg⟩ : ∃ g, w1.heap.size = g := ⟨_, rfl⟩
  rw [hg] at hB4 hcv hB4lt
  have hgw : w.heap.size ≤ g := by rw [← hg]; exact hkc1.below.size
  go_wp2
  go_loopw [9] (fun i wr => ∃ k : Nat, k ≤ s.size ∧ i = .int .i64 k ∧ ByteBlk wr g 5 ((s.data.toList.take k).map upA ++ s.data.toList.drop k) ∧ Ok w wr) (fun i _ => s.size - (intOf i).toNat)
  case atStart => exact ⟨0, by omega, rfl, by simpa using hB4, hk4⟩
  case round =>
    obtain ⟨wy, rfl⟩ : ∃ wy, wy = wr := ⟨_, rfl⟩
    obtain ⟨j, hj, rfl, hB5, hk5⟩ := hrel
    clear hB4 hk4 hcv
    by_cases hjs : j < s.size
    · obtain ⟨b, hb⟩ : ∃ b, s.data.toList[j]? = some b := ⟨_, List.getElem?_eq_getElem (by omega)⟩
      have hlk : j < ((s.data.toList.take j).map upA ++ s.data.toList.drop j).length := by simp; omega
      have hcell := hB5.cell (part_at hb)
      have hfree := hB5.free hlk
      have hset := hB5.set hlk (upA b)
      rw [part_step hb] at hset
      have hb6 : ∀ v, Ok w (wy.setCell ⟨g, j, none⟩ v) := fun v => ⟨hk5.below.setCell hgw _, hG.below (hk5.below.setCell hgw _)⟩
      have hcc : Hid (upA b = b → ByteBlk wy g 5 ((s.data.toList.take (j + 1)).map upA ++ s.data.toList.drop (j + 1))) := fun h => by rw [← part_same hb h]; exact hB5
      clear hb cA cB cC hE
      have c256 := b.toNat_lt
      by_cases h1 : 97 ≤ b.toNat
      · by_cases h2 : b.toNat ≤ 122
        · have hw := upA_wrap b.toNat c256 h1 h2
          rw [UInt8.ofNat_toNat] at hw
          go_wp2
          exact ⟨⟨j + 1, by omega, by go_num, hset, hb6 _⟩, by simp [intOf]; omega⟩
        · go_wp2
          exact ⟨⟨j + 1, by omega, by go_num, hcc.out (upA_small (by omega)), hk5⟩, by simp [intOf]; omega⟩
      · go_wp2
        exact ⟨⟨j + 1, by omega, by go_num, hcc.out (upA_small (by omega)), hk5⟩, by simp [intOf]; omega⟩
    · obtain rfl : j = s.size := by omega
      rw [List.take_of_length_le (by omega), List.drop_eq_nil_of_le (by omega), List.append_nil] at hB5
      go_wp2_with fail
      refine (cA wy hk5.good).mono ?_
      rintro e w11 ⟨rfl, hb11⟩
      have hkc11 := hk5.step hb11
      have hB6 := hB5.below hb11 hB5.lt
      have hst := (hB6.below ((Below.refl _ _).alloc (Nat.le_refl _) (.cells #[.int .i64 k, .string hl, .int .i64 hn, .int .i64 z0, .int .i64 z1, .int .i64 z2, .int .i64 z3, .int .i64 z4, .int .i64 z5, .int .i64 z6, .int .i64 z7] 24)) hB6.lt).str (P := Tryd.prog) (src := 32) (dst := 9) Tryd.underlying32 Tryd.underlying5 Tryd.underlying9 (n := s.size) (cap := cap) (by rw [List.length_map]; exact hlen)
      have rA1 := heap_alloc_new w11 (.cells #[.int .i64 k, .string hl, .int .i64 hn, .int .i64 z0, .int .i64 z1, .int .i64 z2, .int .i64 z3, .int .i64 z4, .int .i64 z5, .int .i64 z6, .int .i64 z7] 24)
      have hka1 := hkc11.alloc (.cells #[.int .i64 k, .string hl, .int .i64 hn, .int .i64 z0, .int .i64 z1, .int .i64 z2, .int .i64 z3, .int .i64 z4, .int .i64 z5, .int .i64 z6, .int .i64 z7] 24)
      go_wp2_with fail
      refine (cB (w11.alloc (.cells #[.int .i64 k, .string hl, .int .i64 hn, .int .i64 z0, .int .i64 z1, .int .i64 z2, .int .i64 z3, .int .i64 z4, .int .i64 z5, .int .i64 z6, .int .i64 z7] 24)) hka1.good).mono ?_
      rintro e w12 ⟨rfl, hb12⟩
      have hkc12 := hka1.step hb12
      have rA2 := block_below rA1 hb12 (lt_of_block rA1)
      have rAa3 := block_alloc rA2 (.cells #[.int .i64 k, .string hl, .int .i64 hn, .int .i64 z0, .int .i64 z1, .int .i64 z2, .int .i64 z3, .int .i64 z4, .int .i64 z5, .int .i64 z6, .int .i64 z7] 24)
      have rB3 := heap_alloc_new w12 (.cells #[.int .i64 k, .string hl, .int .i64 hn, .int .i64 z0, .int .i64 z1, .int .i64 z2, .int .i64 z3, .int .i64 z4, .int .i64 z5, .int .i64 z6, .int .i64 z7] 24)
      have hka3 := hkc12.alloc (.cells #[.int .i64 k, .string hl, .int .i64 hn, .int .i64 z0, .int .i64 z1, .int .i64 z2, .int .i64 z3, .int .i64 z4, .int .i64 z5, .int .i64 z6, .int .i64 z7] 24)
      obtain ⟨cA0, cA1, cA2, cA3, cA4, cA5, cA6, cA7, cA8, cA9, cA10⟩ := host_cells rAa3
      obtain ⟨cB0, cB1, cB2, cB3, cB4, cB5, cB6, cB7, cB8, cB9, cB10⟩ := host_cells rB3
      have hone := str_one c (heap_alloc_new (w12.alloc (.cells #[.int .i64 k, .string hl, .int .i64 hn, .int .i64 z0, .int .i64 z1, .int .i64 z2, .int .i64 z3, .int .i64 z4, .int .i64 z5, .int .i64 z6, .int .i64 z7] 24)) (.cells #[.int .u8 c.toNat] 5)) Tryd.underlying32 Tryd.underlying5 Tryd.underlying9
      rw [World.size_alloc] at hone
      have rAa4 := block_alloc rAa3 (.cells #[.int .u8 c.toNat] 5)
      have rBa4 := block_alloc rB3 (.cells #[.int .u8 c.toNat] 5)
      have rO4 := heap_alloc_new (w12.alloc (.cells #[.int .i64 k, .string hl, .int .i64 hn, .int .i64 z0, .int .i64 z1, .int .i64 z2, .int .i64 z3, .int .i64 z4, .int .i64 z5, .int .i64 z6, .int .i64 z7] 24)) (.cells #[.int .u8 c.toNat] 5)
      have hka4 := hka3.alloc (.cells #[.int .u8 c.toNat] 5)
      go_wp2_with fail
      refine (cC ((w12.alloc (.cells #[.int .i64 k, .string hl, .int .i64 hn, .int .i64 z0, .int .i64 z1, .int .i64 z2, .int .i64 z3, .int .i64 z4, .int .i64 z5, .int .i64 z6, .int .i64 z7] 24)).alloc (.cells #[.int .u8 c.toNat] 5)) hka4.good).mono ?_
      rintro e w13 ⟨rfl, hb13⟩
      have hkc13 := hka4.step hb13
      clear cA0 cA1 cA2 cA3 cA4 cA5 cA6 cA7 cA8 cA9 cA10 cB0 cB1 cB2 cB3 cB4 cB5 cB6 cB7 cB8 cB9 cB10
      have rA5 := block_below rAa4 hb13 (lt_of_block rAa4)
      have rB6 := block_below rBa4 hb13 (lt_of_block rBa4)
      have rAa7 := block_alloc rA5 (.cells #[.int .i64 k2, .string hl2, .int .i64 hn2, .int .i64 v0, .int .i64 v1, .int .i64 v2, .int .i64 v3, .int .i64 v4, .int .i64 v5, .int .i64 v6, .int .i64 v7] 24)
      have rBa7 := block_alloc rB6 (.cells #[.int .i64 k2, .string hl2, .int .i64 hn2, .int .i64 v0, .int .i64 v1, .int .i64 v2, .int .i64 v3, .int .i64 v4, .int .i64 v5, .int .i64 v6, .int .i64 v7] 24)
      have rC7 := heap_alloc_new w13 (.cells #[.int .i64 k2, .string hl2, .int .i64 hn2, .int .i64 v0, .int .i64 v1, .int .i64 v2, .int .i64 v3, .int .i64 v4, .int .i64 v5, .int .i64 v6, .int .i64 v7] 24)
      have hka7 := hkc13.alloc (.cells #[.int .i64 k2, .string hl2, .int .i64 hn2, .int .i64 v0, .int .i64 v1, .int .i64 v2, .int .i64 v3, .int .i64 v4, .int .i64 v5, .int .i64 v6, .int .i64 v7] 24)
      obtain ⟨cA0, cA1, cA2, cA3, cA4, cA5, cA6, cA7, cA8, cA9, cA10⟩ := host_cells rAa7
      obtain ⟨cB0, cB1, cB2, cB3, cB4, cB5, cB6, cB7, cB8, cB9, cB10⟩ := host_cells rBa7
      obtain ⟨cC0, cC1, cC2, cC3, cC4, cC5, cC6, cC7, cC8, cC9, cC10⟩ := host_cells rC7
      go_wp2
      go_ret
      exact ⟨rfl, hka7.below⟩

set_option maxHeartbeats 8000000 in
set_option maxRecDepth 100000 in
theorem case_6 (s t : ByteArray) (c : UInt8) (hs : s.size ≤ 150) (ht : t.size ≤ 150) (k : Int) (hl : ByteArray) (hn z0 z1 z2 z3 z4 z5 z6 z7 k2 : Int) (hl2 : ByteArray) (hn2 v0 v1 v2 v3 v4 v5 v6 v7 : Int) (is no : Bool) (w : World) (hG : Good w)
    (cA : ∀ w1, Good w1 → Calls Tryd.prog 10 #[.string s] w1 fun e w' => e = .returned (.tuple #[.agg #[.int .i64 k, .string hl, .int .i64 hn, .int .i64 z0, .int .i64 z1, .int .i64 z2, .int .i64 z3, .int .i64 z4, .int .i64 z5, .int .i64 z6, .int .i64 z7], .bool is]) ∧ Below w1.heap.size w1 w')
    (cB : ∀ w1, Good w1 → Calls Tryd.prog 10 #[.string ⟨(s.data.toList.map upA).toArray⟩] w1 fun e w' => e = .returned (.tuple #[.agg #[.int .i64 k, .string hl, .int .i64 hn, .int .i64 z0, .int .i64 z1, .int .i64 z2, .int .i64 z3, .int .i64 z4, .int .i64 z5, .int .i64 z6, .int .i64 z7], .bool is]) ∧ Below w1.heap.size w1 w')
    (cC : ∀ w1, Good w1 → Calls Tryd.prog 10 #[.string (s ++ ⟨#[c]⟩ ++ t)] w1 fun e w' => e = .returned (.tuple #[.agg #[.int .i64 k2, .string hl2, .int .i64 hn2, .int .i64 v0, .int .i64 v1, .int .i64 v2, .int .i64 v3, .int .i64 v4, .int .i64 v5, .int .i64 v6, .int .i64 v7], .bool false]) ∧ Below w1.heap.size w1 w') (q0 : decide ((c.toNat : Int) ≤ 32) = false) (q1 : decide ((127 : Int) ≤ (c.toNat : Int)) = false) (q2 : ((c.toNat : Int) == 47) = false) (q3 : ((c.toNat : Int) == 37) = false) (q4 : ((c.toNat : Int) == 64) = false) (q5 : ((c.toNat : Int) == 63) = false) (q6 : ((c.toNat : Int) == 35) = true) :
    Calls Tryd.prog 5 #[.string s, .int .u8 c.toNat, .string t] w fun e w' => e = .returned (.bool true) ∧ Below w.heap.size w w' := by
  have d1 : decide ((150 : Int) < (s.size : Int)) = false := decide_eq_false (by omega)
  have d2 : decide ((150 : Int) < (t.size : Int)) = false := decide_eq_false (by omega)
  have hlen : s.data.toList.length = s.size := (size_list s).symm
  have hq : (is == is) = true := beq_self_eq_true is
  have hE := fun w => eqHost k hl hn z0 z1 z2 z3 z4 z5 z6 z7 k hl hn z0 z1 z2 z3 z4 z5 z6 z7 w
  simp only [beq_self_eq_true, Bool.and_true] at hE
  unfold hV at hE
  have hk0 := Ok.refl hG
  go_enter Tryd.func5, Tryd.ntmps5
  go_wp2_with fail
  refine (awake7 w hk0.good).mono ?_
  rintro e w1 ⟨rfl, hb1⟩
  have hkc1 := hk0.step hb1
  obtain ⟨cap, w4, hcv, hB4, hb4⟩ := ByteBlk.made (P := Tryd.prog) w1 9 32 5 s Tryd.underlying9 Tryd.underlying32 Tryd.underlying5
  have hk4 := hkc1.step hb4
  have hB4lt := hB4.lt
  obtain ⟨g, hg⟩ : ∃ g, w1.heap.size = g := ⟨_, rfl⟩
  rw [hg] at hB4 hcv hB4lt
  have hgw : w.heap.size ≤ g := by rw [← hg]; exact hkc1.below.size
  go_wp2
  go_loopw [9] (fun i wr => ∃ k : Nat, k ≤ s.size ∧ i = .int .i64 k ∧ ByteBlk wr g 5 ((s.data.toList.take k).map upA ++ s.data.toList.drop k) ∧ Ok w wr) (fun i _ => s.size - (intOf i).toNat)
  case atStart => exact ⟨0, by omega, rfl, by simpa using hB4, hk4⟩
  case round =>
    obtain ⟨wy, rfl⟩ : ∃ wy, wy = wr := ⟨_, rfl⟩
    obtain ⟨j, hj, rfl, hB5, hk5⟩ := hrel
    clear hB4 hk4 hcv
    by_cases hjs : j < s.size
    · obtain ⟨b, hb⟩ : ∃ b, s.data.toList[j]? = some b := ⟨_, List.getElem?_eq_getElem (by omega)⟩
      have hlk : j < ((s.data.toList.take j).map upA ++ s.data.toList.drop j).length := by simp; omega
      have hcell := hB5.cell (part_at hb)
      have hfree := hB5.free hlk
      have hset := hB5.set hlk (upA b)
      rw [part_step hb] at hset
      have hb6 : ∀ v, Ok w (wy.setCell ⟨g, j, none⟩ v) := fun v => ⟨hk5.below.setCell hgw _, hG.below (hk5.below.setCell hgw _)⟩
      have hcc : Hid (upA b = b → ByteBlk wy g 5 ((s.data.toList.take (j + 1)).map upA ++ s.data.toList.drop (j + 1))) := fun h => by rw [← part_same hb h]; exact hB5
      clear hb cA cB cC hE
      have c256 := b.toNat_lt
      by_cases h1 : 97 ≤ b.toNat
      · by_cases h2 : b.toNat ≤ 122
        · have hw := upA_wrap b.toNat c256 h1 h2
          rw [UInt8.ofNat_toNat] at hw
          go_wp2
          exact ⟨⟨j + 1, by omega, by go_num, hset, hb6 _⟩, by simp [intOf]; omega⟩
        · go_wp2
          exact ⟨⟨j + 1, by omega, by go_num, hcc.out (upA_small (by omega)), hk5⟩, by simp [intOf]; omega⟩
      · go_wp2
        exact ⟨⟨j + 1, by omega, by go_num, hcc.out (upA_small (by omega)), hk5⟩, by simp [intOf]; omega⟩
    · obtain rfl : j = s.size := by omega
      rw [List.take_of_length_le (by omega), List.drop_eq_nil_of_le (by omega), List.append_nil] at hB5
      go_wp2_with fail
      refine (cA wy hk5.good).mono ?_
      rintro e w11 ⟨rfl, hb11⟩
      have hkc11 := hk5.step hb11
      have hB6 := hB5.below hb11 hB5.lt
      have hst := (hB6.below ((Below.refl _ _).alloc (Nat.le_refl _) (.cells #[.int .i64 k, .string hl, .int .i64 hn, .int .i64 z0, .int .i64 z1, .int .i64 z2, .int .i64 z3, .int .i64 z4, .int .i64 z5, .int .i64 z6, .int .i64 z7] 24)) hB6.lt).str (P := Tryd.prog) (src := 32) (dst := 9) Tryd.underlying32 Tryd.underlying5 Tryd.underlying9 (n := s.size) (cap := cap) (by rw [List.length_map]; exact hlen)
      have rA1 := heap_alloc_new w11 (.cells #[.int .i64 k, .string hl, .int .i64 hn, .int .i64 z0, .int .i64 z1, .int .i64 z2, .int .i64 z3, .int .i64 z4, .int .i64 z5, .int .i64 z6, .int .i64 z7] 24)
      have hka1 := hkc11.alloc (.cells #[.int .i64 k, .string hl, .int .i64 hn, .int .i64 z0, .int .i64 z1, .int .i64 z2, .int .i64 z3, .int .i64 z4, .int .i64 z5, .int .i64 z6, .int .i64 z7] 24)
      go_wp2_with fail
      refine (cB (w11.alloc (.cells #[.int .i64 k, .string hl, .int .i64 hn, .int .i64 z0, .int .i64 z1, .int .i64 z2, .int .i64 z3, .int .i64 z4, .int .i64 z5, .int .i64 z6, .int .i64 z7] 24)) hka1.good).mono ?_
      rintro e w12 ⟨rfl, hb12⟩
      have hkc12 := hka1.step hb12
      have rA2 := block_below rA1 hb12 (lt_of_block rA1)
      have rAa3 := block_alloc rA2 (.cells #[.int .i64 k, .string hl, .int .i64 hn, .int .i64 z0, .int .i64 z1, .int .i64 z2, .int .i64 z3, .int .i64 z4, .int .i64 z5, .int .i64 z6, .int .i64 z7] 24)
      have rB3 := heap_alloc_new w12 (.cells #[.int .i64 k, .string hl, .int .i64 hn, .int .i64 z0, .int .i64 z1, .int .i64 z2, .int .i64 z3, .int .i64 z4, .int .i64 z5, .int .i64 z6, .int .i64 z7] 24)
      have hka3 := hkc12.alloc (.cells #[.int .i64 k, .string hl, .int .i64 hn, .int .i64 z0, .int .i64 z1, .int .i64 z2, .int .i64 z3, .int .i64 z4, .int .i64 z5, .int .i64 z6, .int .i64 z7] 24)
      obtain ⟨cA0, cA1, cA2, cA3, cA4, cA5, cA6, cA7, cA8, cA9, cA10⟩ := host_cells rAa3
      obtain ⟨cB0, cB1, cB2, cB3, cB4, cB5, cB6, cB7, cB8, cB9, cB10⟩ := host_cells rB3
      have hone := str_one c (heap_alloc_new (w12.alloc (.cells #[.int .i64 k, .string hl, .int .i64 hn, .int .i64 z0, .int .i64 z1, .int .i64 z2, .int .i64 z3, .int .i64 z4, .int .i64 z5, .int .i64 z6, .int .i64 z7] 24)) (.cells #[.int .u8 c.toNat] 5)) Tryd.underlying32 Tryd.underlying5 Tryd.underlying9
      rw [World.size_alloc] at hone
      have rAa4 := block_alloc rAa3 (.cells #[.int .u8 c.toNat] 5)
      have rBa4 := block_alloc rB3 (.cells #[.int .u8 c.toNat] 5)
      have rO4 := heap_alloc_new (w12.alloc (.cells #[.int .i64 k, .string hl, .int .i64 hn, .int .i64 z0, .int .i64 z1, .int .i64 z2, .int .i64 z3, .int .i64 z4, .int .i64 z5, .int .i64 z6, .int .i64 z7] 24)) (.cells #[.int .u8 c.toNat] 5)
      have hka4 := hka3.alloc (.cells #[.int .u8 c.toNat] 5)
      go_wp2_with fail
      refine (cC ((w12.alloc (.cells #[.int .i64 k, .string hl, .int .i64 hn, .int .i64 z0, .int .i64 z1, .int .i64 z2, .int .i64 z3, .int .i64 z4, .int .i64 z5, .int .i64 z6, .int .i64 z7] 24)).alloc (.cells #[.int .u8 c.toNat] 5)) hka4.good).mono ?_
      rintro e w13 ⟨rfl, hb13⟩
      have hkc13 := hka4.step hb13
      clear cA0 cA1 cA2 cA3 cA4 cA5 cA6 cA7 cA8 cA9 cA10 cB0 cB1 cB2 cB3 cB4 cB5 cB6 cB7 cB8 cB9 cB10
      have rA5 := block_below rAa4 hb13 (lt_of_block rAa4)
      have rB6 := block_below rBa4 hb13 (lt_of_block rBa4)
      have rAa7 := block_alloc rA5 (.cells #[.int .i64 k2, .string hl2, .int .i64 hn2, .int .i64 v0, .int .i64 v1, .int .i64 v2, .int .i64 v3, .int .i64 v4, .int .i64 v5, .int .i64 v6, .int .i64 v7] 24)
      have rBa7 := block_alloc rB6 (.cells #[.int .i64 k2, .string hl2, .int .i64 hn2, .int .i64 v0, .int .i64 v1, .int .i64 v2, .int .i64 v3, .int .i64 v4, .int .i64 v5, .int .i64 v6, .int .i64 v7] 24)
      have rC7 := heap_alloc_new w13 (.cells #[.int .i64 k2, .string hl2, .int .i64 hn2, .int .i64 v0, .int .i64 v1, .int .i64 v2, .int .i64 v3, .int .i64 v4, .int .i64 v5, .int .i64 v6, .int .i64 v7] 24)
      have hka7 := hkc13.alloc (.cells #[.int .i64 k2, .string hl2, .int .i64 hn2, .int .i64 v0, .int .i64 v1, .int .i64 v2, .int .i64 v3, .int .i64 v4, .int .i64 v5, .int .i64 v6, .int .i64 v7] 24)
      obtain ⟨cA0, cA1, cA2, cA3, cA4, cA5, cA6, cA7, cA8, cA9, cA10⟩ := host_cells rAa7
      obtain ⟨cB0, cB1, cB2, cB3, cB4, cB5, cB6, cB7, cB8, cB9, cB10⟩ := host_cells rBa7
      obtain ⟨cC0, cC1, cC2, cC3, cC4, cC5, cC6, cC7, cC8, cC9, cC10⟩ := host_cells rC7
      go_wp2
      go_ret
      exact ⟨rfl, hka7.below⟩

set_option maxHeartbeats 8000000 in
set_option maxRecDepth 100000 in
theorem case_7 (s t : ByteArray) (c : UInt8) (hs : s.size ≤ 150) (ht : t.size ≤ 150) (k : Int) (hl : ByteArray) (hn z0 z1 z2 z3 z4 z5 z6 z7 k2 : Int) (hl2 : ByteArray) (hn2 v0 v1 v2 v3 v4 v5 v6 v7 : Int) (is no : Bool) (w : World) (hG : Good w)
    (cA : ∀ w1, Good w1 → Calls Tryd.prog 10 #[.string s] w1 fun e w' => e = .returned (.tuple #[.agg #[.int .i64 k, .string hl, .int .i64 hn, .int .i64 z0, .int .i64 z1, .int .i64 z2, .int .i64 z3, .int .i64 z4, .int .i64 z5, .int .i64 z6, .int .i64 z7], .bool is]) ∧ Below w1.heap.size w1 w')
    (cB : ∀ w1, Good w1 → Calls Tryd.prog 10 #[.string ⟨(s.data.toList.map upA).toArray⟩] w1 fun e w' => e = .returned (.tuple #[.agg #[.int .i64 k, .string hl, .int .i64 hn, .int .i64 z0, .int .i64 z1, .int .i64 z2, .int .i64 z3, .int .i64 z4, .int .i64 z5, .int .i64 z6, .int .i64 z7], .bool is]) ∧ Below w1.heap.size w1 w')
    (cC : ∀ w1, Good w1 → Calls Tryd.prog 10 #[.string (s ++ ⟨#[c]⟩ ++ t)] w1 fun e w' => e = .returned (.tuple #[.agg #[.int .i64 k2, .string hl2, .int .i64 hn2, .int .i64 v0, .int .i64 v1, .int .i64 v2, .int .i64 v3, .int .i64 v4, .int .i64 v5, .int .i64 v6, .int .i64 v7], .bool false]) ∧ Below w1.heap.size w1 w') (q0 : decide ((c.toNat : Int) ≤ 32) = false) (q1 : decide ((127 : Int) ≤ (c.toNat : Int)) = false) (q2 : ((c.toNat : Int) == 47) = false) (q3 : ((c.toNat : Int) == 37) = false) (q4 : ((c.toNat : Int) == 64) = false) (q5 : ((c.toNat : Int) == 63) = false) (q6 : ((c.toNat : Int) == 35) = false) (q7 : ((c.toNat : Int) == 92) = true) :
    Calls Tryd.prog 5 #[.string s, .int .u8 c.toNat, .string t] w fun e w' => e = .returned (.bool true) ∧ Below w.heap.size w w' := by
  have d1 : decide ((150 : Int) < (s.size : Int)) = false := decide_eq_false (by omega)
  have d2 : decide ((150 : Int) < (t.size : Int)) = false := decide_eq_false (by omega)
  have hlen : s.data.toList.length = s.size := (size_list s).symm
  have hq : (is == is) = true := beq_self_eq_true is
  have hE := fun w => eqHost k hl hn z0 z1 z2 z3 z4 z5 z6 z7 k hl hn z0 z1 z2 z3 z4 z5 z6 z7 w
  simp only [beq_self_eq_true, Bool.and_true] at hE
  unfold hV at hE
  have hk0 := Ok.refl hG
  go_enter Tryd.func5, Tryd.ntmps5
  go_wp2_with fail
  refine (awake7 w hk0.good).mono ?_
  rintro e w1 ⟨rfl, hb1⟩
  have hkc1 := hk0.step hb1
  obtain ⟨cap, w4, hcv, hB4, hb4⟩ := ByteBlk.made (P := Tryd.prog) w1 9 32 5 s Tryd.underlying9 Tryd.underlying32 Tryd.underlying5
  have hk4 := hkc1.step hb4
  have hB4lt := hB4.lt
  obtain ⟨g, hg⟩ : ∃ g, w1.heap.size = g := ⟨_, rfl⟩
  rw [hg] at hB4 hcv hB4lt
  have hgw : w.heap.size ≤ g := by rw [← hg]; exact hkc1.below.size
  go_wp2
  go_loopw [9] (fun i wr => ∃ k : Nat, k ≤ s.size ∧ i = .int .i64 k ∧ ByteBlk wr g 5 ((s.data.toList.take k).map upA ++ s.data.toList.drop k) ∧ Ok w wr) (fun i _ => s.size - (intOf i).toNat)
  case atStart => exact ⟨0, by omega, rfl, by simpa using hB4, hk4⟩
  case round =>
    obtain ⟨wy, rfl⟩ : ∃ wy, wy = wr := ⟨_, rfl⟩
    obtain ⟨j, hj, rfl, hB5, hk5⟩ := hrel
    clear hB4 hk4 hcv
    by_cases hjs : j < s.size
    · obtain ⟨b, hb⟩ : ∃ b, s.data.toList[j]? = some b := ⟨_, List.getElem?_eq_getElem (by omega)⟩
      have hlk : j < ((s.data.toList.take j).map upA ++ s.data.toList.drop j).length := by simp; omega
      have hcell := hB5.cell (part_at hb)
      have hfree := hB5.free hlk
      have hset := hB5.set hlk (upA b)
      rw [part_step hb] at hset
      have hb6 : ∀ v, Ok w (wy.setCell ⟨g, j, none⟩ v) := fun v => ⟨hk5.below.setCell hgw _, hG.below (hk5.below.setCell hgw _)⟩
      have hcc : Hid (upA b = b → ByteBlk wy g 5 ((s.data.toList.take (j + 1)).map upA ++ s.data.toList.drop (j + 1))) := fun h => by rw [← part_same hb h]; exact hB5
      clear hb cA cB cC hE
      have c256 := b.toNat_lt
      by_cases h1 : 97 ≤ b.toNat
      · by_cases h2 : b.toNat ≤ 122
        · have hw := upA_wrap b.toNat c256 h1 h2
          rw [UInt8.ofNat_toNat] at hw
          go_wp2
          exact ⟨⟨j + 1, by omega, by go_num, hset, hb6 _⟩, by simp [intOf]; omega⟩
        · go_wp2
          exact ⟨⟨j + 1, by omega, by go_num, hcc.out (upA_small (by omega)), hk5⟩, by simp [intOf]; omega⟩
      · go_wp2
        exact ⟨⟨j + 1, by omega, by go_num, hcc.out (upA_small (by omega)), hk5⟩, by simp [intOf]; omega⟩
    · obtain rfl : j = s.size := by omega
      rw [List.take_of_length_le (by omega), List.drop_eq_nil_of_le (by omega), List.append_nil] at hB5
      go_wp2_with fail
      refine (cA wy hk5.good).mono ?_
      rintro e w11 ⟨rfl, hb11⟩
      have hkc11 := hk5.step hb11
      have hB6 := hB5.below hb11 hB5.lt
      have hst := (hB6.below ((Below.refl _ _).alloc (Nat.le_refl _) (.cells #[.int .i64 k, .string hl, .int .i64 hn, .int .i64 z0, .int .i64 z1, .int .i64 z2, .int .i64 z3, .int .i64 z4, .int .i64 z5, .int .i64 z6, .int .i64 z7] 24)) hB6.lt).str (P := Tryd.prog) (src := 32) (dst := 9) Tryd.underlying32 Tryd.underlying5 Tryd.underlying9 (n := s.size) (cap := cap) (by rw [List.length_map]; exact hlen)
      have rA1 := heap_alloc_new w11 (.cells #[.int .i64 k, .string hl, .int .i64 hn, .int .i64 z0, .int .i64 z1, .int .i64 z2, .int .i64 z3, .int .i64 z4, .int .i64 z5, .int .i64 z6, .int .i64 z7] 24)
      have hka1 := hkc11.alloc (.cells #[.int .i64 k, .string hl, .int .i64 hn, .int .i64 z0, .int .i64 z1, .int .i64 z2, .int .i64 z3, .int .i64 z4, .int .i64 z5, .int .i64 z6, .int .i64 z7] 24)
      go_wp2_with fail
      refine (cB (w11.alloc (.cells #[.int .i64 k, .string hl, .int .i64 hn, .int .i64 z0, .int .i64 z1, .int .i64 z2, .int .i64 z3, .int .i64 z4, .int .i64 z5, .int .i64 z6, .int .i64 z7] 24)) hka1.good).mono ?_
      rintro e w12 ⟨rfl, hb12⟩
      have hkc12 := hka1.step hb12
      have rA2 := block_below rA1 hb12 (lt_of_block rA1)
      have rAa3 := block_alloc rA2 (.cells #[.int .i64 k, .string hl, .int .i64 hn, .int .i64 z0, .int .i64 z1, .int .i64 z2, .int .i64 z3, .int .i64 z4, .int .i64 z5, .int .i64 z6, .int .i64 z7] 24)
      have rB3 := heap_alloc_new w12 (.cells #[.int .i64 k, .string hl, .int .i64 hn, .int .i64 z0, .int .i64 z1, .int .i64 z2, .int .i64 z3, .int .i64 z4, .int .i64 z5, .int .i64 z6, .int .i64 z7] 24)
      have hka3 := hkc12.alloc (.cells #[.int .i64 k, .string hl, .int .i64 hn, .int .i64 z0, .int .i64 z1, .int .i64 z2, .int .i64 z3, .int .i64 z4, .int .i64 z5, .int .i64 z6, .int .i64 z7] 24)
      obtain ⟨cA0, cA1, cA2, cA3, cA4, cA5, cA6, cA7, cA8, cA9, cA10⟩ := host_cells rAa3
      obtain ⟨cB0, cB1, cB2, cB3, cB4, cB5, cB6, cB7, cB8, cB9, cB10⟩ := host_cells rB3
      have hone := str_one c (heap_alloc_new (w12.alloc (.cells #[.int .i64 k, .string hl, .int .i64 hn, .int .i64 z0, .int .i64 z1, .int .i64 z2, .int .i64 z3, .int .i64 z4, .int .i64 z5, .int .i64 z6, .int .i64 z7] 24)) (.cells #[.int .u8 c.toNat] 5)) Tryd.underlying32 Tryd.underlying5 Tryd.underlying9
      rw [World.size_alloc] at hone
      have rAa4 := block_alloc rAa3 (.cells #[.int .u8 c.toNat] 5)
      have rBa4 := block_alloc rB3 (.cells #[.int .u8 c.toNat] 5)
      have rO4 := heap_alloc_new (w12.alloc (.cells #[.int .i64 k, .string hl, .int .i64 hn, .int .i64 z0, .int .i64 z1, .int .i64 z2, .int .i64 z3, .int .i64 z4, .int .i64 z5, .int .i64 z6, .int .i64 z7] 24)) (.cells #[.int .u8 c.toNat] 5)
      have hka4 := hka3.alloc (.cells #[.int .u8 c.toNat] 5)
      go_wp2_with fail
      refine (cC ((w12.alloc (.cells #[.int .i64 k, .string hl, .int .i64 hn, .int .i64 z0, .int .i64 z1, .int .i64 z2, .int .i64 z3, .int .i64 z4, .int .i64 z5, .int .i64 z6, .int .i64 z7] 24)).alloc (.cells #[.int .u8 c.toNat] 5)) hka4.good).mono ?_
      rintro e w13 ⟨rfl, hb13⟩
      have hkc13 := hka4.step hb13
      clear cA0 cA1 cA2 cA3 cA4 cA5 cA6 cA7 cA8 cA9 cA10 cB0 cB1 cB2 cB3 cB4 cB5 cB6 cB7 cB8 cB9 cB10
      have rA5 := block_below rAa4 hb13 (lt_of_block rAa4)
      have rB6 := block_below rBa4 hb13 (lt_of_block rBa4)
      have rAa7 := block_alloc rA5 (.cells #[.int .i64 k2, .string hl2, .int .i64 hn2, .int .i64 v0, .int .i64 v1, .int .i64 v2, .int .i64 v3, .int .i64 v4, .int .i64 v5, .int .i64 v6, .int .i64 v7] 24)
      have rBa7 := block_alloc rB6 (.cells #[.int .i64 k2, .string hl2, .int .i64 hn2, .int .i64 v0, .int .i64 v1, .int .i64 v2, .int .i64 v3, .int .i64 v4, .int .i64 v5, .int .i64 v6, .int .i64 v7] 24)
      have rC7 := heap_alloc_new w13 (.cells #[.int .i64 k2, .string hl2, .int .i64 hn2, .int .i64 v0, .int .i64 v1, .int .i64 v2, .int .i64 v3, .int .i64 v4, .int .i64 v5, .int .i64 v6, .int .i64 v7] 24)
      have hka7 := hkc13.alloc (.cells #[.int .i64 k2, .string hl2, .int .i64 hn2, .int .i64 v0, .int .i64 v1, .int .i64 v2, .int .i64 v3, .int .i64 v4, .int .i64 v5, .int .i64 v6, .int .i64 v7] 24)
      obtain ⟨cA0, cA1, cA2, cA3, cA4, cA5, cA6, cA7, cA8, cA9, cA10⟩ := host_cells rAa7
      obtain ⟨cB0, cB1, cB2, cB3, cB4, cB5, cB6, cB7, cB8, cB9, cB10⟩ := host_cells rBa7
      obtain ⟨cC0, cC1, cC2, cC3, cC4, cC5, cC6, cC7, cC8, cC9, cC10⟩ := host_cells rC7
      go_wp2
      go_ret
      exact ⟨rfl, hka7.below⟩

set_option maxHeartbeats 8000000 in
set_option maxRecDepth 100000 in
theorem case_8 (s t : ByteArray) (c : UInt8) (hs : s.size ≤ 150) (ht : t.size ≤ 150) (k : Int) (hl : ByteArray) (hn z0 z1 z2 z3 z4 z5 z6 z7 k2 : Int) (hl2 : ByteArray) (hn2 v0 v1 v2 v3 v4 v5 v6 v7 : Int) (is no : Bool) (w : World) (hG : Good w)
    (cA : ∀ w1, Good w1 → Calls Tryd.prog 10 #[.string s] w1 fun e w' => e = .returned (.tuple #[.agg #[.int .i64 k, .string hl, .int .i64 hn, .int .i64 z0, .int .i64 z1, .int .i64 z2, .int .i64 z3, .int .i64 z4, .int .i64 z5, .int .i64 z6, .int .i64 z7], .bool is]) ∧ Below w1.heap.size w1 w')
    (cB : ∀ w1, Good w1 → Calls Tryd.prog 10 #[.string ⟨(s.data.toList.map upA).toArray⟩] w1 fun e w' => e = .returned (.tuple #[.agg #[.int .i64 k, .string hl, .int .i64 hn, .int .i64 z0, .int .i64 z1, .int .i64 z2, .int .i64 z3, .int .i64 z4, .int .i64 z5, .int .i64 z6, .int .i64 z7], .bool is]) ∧ Below w1.heap.size w1 w')
    (cC : ∀ w1, Good w1 → Calls Tryd.prog 10 #[.string (s ++ ⟨#[c]⟩ ++ t)] w1 fun e w' => e = .returned (.tuple #[.agg #[.int .i64 k2, .string hl2, .int .i64 hn2, .int .i64 v0, .int .i64 v1, .int .i64 v2, .int .i64 v3, .int .i64 v4, .int .i64 v5, .int .i64 v6, .int .i64 v7], .bool no]) ∧ Below w1.heap.size w1 w') (q0 : decide ((c.toNat : Int) ≤ 32) = false) (q1 : decide ((127 : Int) ≤ (c.toNat : Int)) = false) (q2 : ((c.toNat : Int) == 47) = false) (q3 : ((c.toNat : Int) == 37) = false) (q4 : ((c.toNat : Int) == 64) = false) (q5 : ((c.toNat : Int) == 63) = false) (q6 : ((c.toNat : Int) == 35) = false) (q7 : ((c.toNat : Int) == 92) = false) :
    Calls Tryd.prog 5 #[.string s, .int .u8 c.toNat, .string t] w fun e w' => e = .returned (.bool true) ∧ Below w.heap.size w w' := by
  have d1 : decide ((150 : Int) < (s.size : Int)) = false := decide_eq_false (by omega)
  have d2 : decide ((150 : Int) < (t.size : Int)) = false := decide_eq_false (by omega)
  have hlen : s.data.toList.length = s.size := (size_list s).symm
  have hq : (is == is) = true := beq_self_eq_true is
  have hE := fun w => eqHost k hl hn z0 z1 z2 z3 z4 z5 z6 z7 k hl hn z0 z1 z2 z3 z4 z5 z6 z7 w
  simp only [beq_self_eq_true, Bool.and_true] at hE
  unfold hV at hE
  have hk0 := Ok.refl hG
  go_enter Tryd.func5, Tryd.ntmps5
  go_wp2_with fail
  refine (awake7 w hk0.good).mono ?_
  rintro e w1 ⟨rfl, hb1⟩
  have hkc1 := hk0.step hb1
  obtain ⟨cap, w4, hcv, hB4, hb4⟩ := ByteBlk.made (P := Tryd.prog) w1 9 32 5 s Tryd.underlying9 Tryd.underlying32 Tryd.underlying5
  have hk4 := hkc1.step hb4
  have hB4lt := hB4.lt
  obtain ⟨g, hg⟩ : ∃ g, w1.heap.size = g := ⟨_, rfl⟩
  rw [hg] at hB4 hcv hB4lt
  have hgw : w.heap.size ≤ g := by rw [← hg]; exact hkc1.below.size
  go_wp2
  go_loopw [9] (fun i wr => ∃ k : Nat, k ≤ s.size ∧ i = .int .i64 k ∧ ByteBlk wr g 5 ((s.data.toList.take k).map upA ++ s.data.toList.drop k) ∧ Ok w wr) (fun i _ => s.size - (intOf i).toNat)
  case atStart => exact ⟨0, by omega, rfl, by simpa using hB4, hk4⟩
  case round =>
    obtain ⟨wy, rfl⟩ : ∃ wy, wy = wr := ⟨_, rfl⟩
    obtain ⟨j, hj, rfl, hB5, hk5⟩ := hrel
    clear hB4 hk4 hcv
    by_cases hjs : j < s.size
    · obtain ⟨b, hb⟩ : ∃ b, s.data.toList[j]? = some b := ⟨_, List.getElem?_eq_getElem (by omega)⟩
      have hlk : j < ((s.data.toList.take j).map upA ++ s.data.toList.drop j).length := by simp; omega
      have hcell := hB5.cell (part_at hb)
      have hfree := hB5.free hlk
      have hset := hB5.set hlk (upA b)
      rw [part_step hb] at hset
      have hb6 : ∀ v, Ok w (wy.setCell ⟨g, j, none⟩ v) := fun v => ⟨hk5.below.setCell hgw _, hG.below (hk5.below.setCell hgw _)⟩
      have hcc : Hid (upA b = b → ByteBlk wy g 5 ((s.data.toList.take (j + 1)).map upA ++ s.data.toList.drop (j + 1))) := fun h => by rw [← part_same hb h]; exact hB5
      clear hb cA cB cC hE
      have c256 := b.toNat_lt
      by_cases h1 : 97 ≤ b.toNat
      · by_cases h2 : b.toNat ≤ 122
        · have hw := upA_wrap b.toNat c256 h1 h2
          rw [UInt8.ofNat_toNat] at hw
          go_wp2
          exact ⟨⟨j + 1, by omega, by go_num, hset, hb6 _⟩, by simp [intOf]; omega⟩
        · go_wp2
          exact ⟨⟨j + 1, by omega, by go_num, hcc.out (upA_small (by omega)), hk5⟩, by simp [intOf]; omega⟩
      · go_wp2
        exact ⟨⟨j + 1, by omega, by go_num, hcc.out (upA_small (by omega)), hk5⟩, by simp [intOf]; omega⟩
    · obtain rfl : j = s.size := by omega
      rw [List.take_of_length_le (by omega), List.drop_eq_nil_of_le (by omega), List.append_nil] at hB5
      go_wp2_with fail
      refine (cA wy hk5.good).mono ?_
      rintro e w11 ⟨rfl, hb11⟩
      have hkc11 := hk5.step hb11
      have hB6 := hB5.below hb11 hB5.lt
      have hst := (hB6.below ((Below.refl _ _).alloc (Nat.le_refl _) (.cells #[.int .i64 k, .string hl, .int .i64 hn, .int .i64 z0, .int .i64 z1, .int .i64 z2, .int .i64 z3, .int .i64 z4, .int .i64 z5, .int .i64 z6, .int .i64 z7] 24)) hB6.lt).str (P := Tryd.prog) (src := 32) (dst := 9) Tryd.underlying32 Tryd.underlying5 Tryd.underlying9 (n := s.size) (cap := cap) (by rw [List.length_map]; exact hlen)
      have rA1 := heap_alloc_new w11 (.cells #[.int .i64 k, .string hl, .int .i64 hn, .int .i64 z0, .int .i64 z1, .int .i64 z2, .int .i64 z3, .int .i64 z4, .int .i64 z5, .int .i64 z6, .int .i64 z7] 24)
      have hka1 := hkc11.alloc (.cells #[.int .i64 k, .string hl, .int .i64 hn, .int .i64 z0, .int .i64 z1, .int .i64 z2, .int .i64 z3, .int .i64 z4, .int .i64 z5, .int .i64 z6, .int .i64 z7] 24)
      go_wp2_with fail
      refine (cB (w11.alloc (.cells #[.int .i64 k, .string hl, .int .i64 hn, .int .i64 z0, .int .i64 z1, .int .i64 z2, .int .i64 z3, .int .i64 z4, .int .i64 z5, .int .i64 z6, .int .i64 z7] 24)) hka1.good).mono ?_
      rintro e w12 ⟨rfl, hb12⟩
      have hkc12 := hka1.step hb12
      have rA2 := block_below rA1 hb12 (lt_of_block rA1)
      have rAa3 := block_alloc rA2 (.cells #[.int .i64 k, .string hl, .int .i64 hn, .int .i64 z0, .int .i64 z1, .int .i64 z2, .int .i64 z3, .int .i64 z4, .int .i64 z5, .int .i64 z6, .int .i64 z7] 24)
      have rB3 := heap_alloc_new w12 (.cells #[.int .i64 k, .string hl, .int .i64 hn, .int .i64 z0, .int .i64 z1, .int .i64 z2, .int .i64 z3, .int .i64 z4, .int .i64 z5, .int .i64 z6, .int .i64 z7] 24)
      have hka3 := hkc12.alloc (.cells #[.int .i64 k, .string hl, .int .i64 hn, .int .i64 z0, .int .i64 z1, .int .i64 z2, .int .i64 z3, .int .i64 z4, .int .i64 z5, .int .i64 z6, .int .i64 z7] 24)
      obtain ⟨cA0, cA1, cA2, cA3, cA4, cA5, cA6, cA7, cA8, cA9, cA10⟩ := host_cells rAa3
      obtain ⟨cB0, cB1, cB2, cB3, cB4, cB5, cB6, cB7, cB8, cB9, cB10⟩ := host_cells rB3
      have hone := str_one c (heap_alloc_new (w12.alloc (.cells #[.int .i64 k, .string hl, .int .i64 hn, .int .i64 z0, .int .i64 z1, .int .i64 z2, .int .i64 z3, .int .i64 z4, .int .i64 z5, .int .i64 z6, .int .i64 z7] 24)) (.cells #[.int .u8 c.toNat] 5)) Tryd.underlying32 Tryd.underlying5 Tryd.underlying9
      rw [World.size_alloc] at hone
      have rAa4 := block_alloc rAa3 (.cells #[.int .u8 c.toNat] 5)
      have rBa4 := block_alloc rB3 (.cells #[.int .u8 c.toNat] 5)
      have rO4 := heap_alloc_new (w12.alloc (.cells #[.int .i64 k, .string hl, .int .i64 hn, .int .i64 z0, .int .i64 z1, .int .i64 z2, .int .i64 z3, .int .i64 z4, .int .i64 z5, .int .i64 z6, .int .i64 z7] 24)) (.cells #[.int .u8 c.toNat] 5)
      have hka4 := hka3.alloc (.cells #[.int .u8 c.toNat] 5)
      go_wp2_with fail
      refine (cC ((w12.alloc (.cells #[.int .i64 k, .string hl, .int .i64 hn, .int .i64 z0, .int .i64 z1, .int .i64 z2, .int .i64 z3, .int .i64 z4, .int .i64 z5, .int .i64 z6, .int .i64 z7] 24)).alloc (.cells #[.int .u8 c.toNat] 5)) hka4.good).mono ?_
      rintro e w13 ⟨rfl, hb13⟩
      have hkc13 := hka4.step hb13
      clear cA0 cA1 cA2 cA3 cA4 cA5 cA6 cA7 cA8 cA9 cA10 cB0 cB1 cB2 cB3 cB4 cB5 cB6 cB7 cB8 cB9 cB10
      have rA5 := block_below rAa4 hb13 (lt_of_block rAa4)
      have rB6 := block_below rBa4 hb13 (lt_of_block rBa4)
      have rAa7 := block_alloc rA5 (.cells #[.int .i64 k2, .string hl2, .int .i64 hn2, .int .i64 v0, .int .i64 v1, .int .i64 v2, .int .i64 v3, .int .i64 v4, .int .i64 v5, .int .i64 v6, .int .i64 v7] 24)
      have rBa7 := block_alloc rB6 (.cells #[.int .i64 k2, .string hl2, .int .i64 hn2, .int .i64 v0, .int .i64 v1, .int .i64 v2, .int .i64 v3, .int .i64 v4, .int .i64 v5, .int .i64 v6, .int .i64 v7] 24)
      have rC7 := heap_alloc_new w13 (.cells #[.int .i64 k2, .string hl2, .int .i64 hn2, .int .i64 v0, .int .i64 v1, .int .i64 v2, .int .i64 v3, .int .i64 v4, .int .i64 v5, .int .i64 v6, .int .i64 v7] 24)
      have hka7 := hkc13.alloc (.cells #[.int .i64 k2, .string hl2, .int .i64 hn2, .int .i64 v0, .int .i64 v1, .int .i64 v2, .int .i64 v3, .int .i64 v4, .int .i64 v5, .int .i64 v6, .int .i64 v7] 24)
      obtain ⟨cA0, cA1, cA2, cA3, cA4, cA5, cA6, cA7, cA8, cA9, cA10⟩ := host_cells rAa7
      obtain ⟨cB0, cB1, cB2, cB3, cB4, cB5, cB6, cB7, cB8, cB9, cB10⟩ := host_cells rBa7
      obtain ⟨cC0, cC1, cC2, cC3, cC4, cC5, cC6, cC7, cC8, cC9, cC10⟩ := host_cells rC7
      go_wp2
      go_ret
      exact ⟨rfl, hka7.below⟩

theorem law_HostCase (s : ByteArray) (c0 : Int) (t : ByteArray) (_hs : s.size ≤ 140737488351232) (hc0 : (Lit.int .u8 c0).wf = true) (_ht : t.size ≤ 140737488351232) (w : World) (hG : Good w) :
    Calls Tryd.prog 5 #[.string s, .int .u8 c0, .string t] w fun e w' => e = .returned (.bool true) ∧ Below w.heap.size w w' := by
  obtain ⟨hb0, hb1⟩ := bounds_u8 hc0
  obtain ⟨c, rfl⟩ : ∃ c : UInt8, c0 = (c.toNat : Int) := ⟨UInt8.ofNat c0.toNat, by rw [UInt8.toNat_ofNat']; omega⟩
  by_cases hs : s.size ≤ 150
  · by_cases ht : t.size ≤ 150
    · have cA := fun w1 (hG : Good w1) => host_Parse_any s (by omega) w1 hG
      have cB := fun w1 (hG : Good w1) => host_Parse_any ⟨(s.data.toList.map upA).toArray⟩ (by rw [size_list, mk_toList, List.length_map, ← size_list]; omega) w1 hG
      have cC := fun w1 (hG : Good w1) => host_Parse_any (s ++ ⟨#[c]⟩ ++ t) (by simp [ByteArray.size_append]; show s.size + 1 + t.size ≤ _; omega) w1 hG
      have hbad := fun h => bad_no (l := (s ++ ⟨#[c]⟩ ++ t).data.toList) (c := c) (by simp [ByteArray.data_append]) h
      simp only [up_host] at cB
      generalize (parseH (s ++ ⟨#[c]⟩ ++ t).data.toList) = x at *
      generalize (parseH s.data.toList) = y at *
      obtain ⟨⟨k, hl, hn, z0, z1, z2, z3, z4, z5, z6, z7⟩, is⟩ := y
      obtain ⟨⟨k2, hl2, hn2, v0, v1, v2, v3, v4, v5, v6, v7⟩, no⟩ := x
      have hno : badC c = true → no = false := fun h => congrArg Prod.snd (hbad h)
      clear hbad
      unfold HostT.val hV at cA cB cC
      dsimp only at cA cB cC
      have hc256 := c.toNat_lt
      have nat : ∀ n : Nat, n < 256 → (c.toNat : Int) = n → c = UInt8.ofNat n := fun n hn h => UInt8.toNat_inj.1 (by rw [UInt8.toNat_ofNat']; omega)
      by_cases p0 : (c.toNat ≤ 32)
      · have q0 : decide ((c.toNat : Int) ≤ 32) = true := decide_eq_true (by omega)
        have hz := hno (decide_eq_true (Or.inl p0))
        subst hz
        exact case_0 s t c hs ht k hl hn z0 z1 z2 z3 z4 z5 z6 z7 k2 hl2 hn2 v0 v1 v2 v3 v4 v5 v6 v7 is false w hG cA cB cC q0
      have q0 : decide ((c.toNat : Int) ≤ 32) = false := decide_eq_false (by omega)
      by_cases p1 : (127 ≤ c.toNat)
      · have q1 : decide ((127 : Int) ≤ (c.toNat : Int)) = true := decide_eq_true (by omega)
        have hz := hno (decide_eq_true (Or.inr (Or.inl p1)))
        subst hz
        exact case_1 s t c hs ht k hl hn z0 z1 z2 z3 z4 z5 z6 z7 k2 hl2 hn2 v0 v1 v2 v3 v4 v5 v6 v7 is false w hG cA cB cC q0 q1
      have q1 : decide ((127 : Int) ≤ (c.toNat : Int)) = false := decide_eq_false (by omega)
      by_cases p2 : ((c.toNat : Int) = 47)
      · have q2 : ((c.toNat : Int) == 47) = true := beq_iff_eq.2 p2
        have hz := hno (decide_eq_true (Or.inr (Or.inr (Or.inl (nat 47 (by decide) p2)))))
        subst hz
        exact case_2 s t c hs ht k hl hn z0 z1 z2 z3 z4 z5 z6 z7 k2 hl2 hn2 v0 v1 v2 v3 v4 v5 v6 v7 is false w hG cA cB cC q0 q1 q2
      have q2 : ((c.toNat : Int) == 47) = false := beq_eq_false_iff_ne.2 p2
      by_cases p3 : ((c.toNat : Int) = 37)
      · have q3 : ((c.toNat : Int) == 37) = true := beq_iff_eq.2 p3
        have hz := hno (decide_eq_true (Or.inr (Or.inr (Or.inr (Or.inl (nat 37 (by decide) p3))))))
        subst hz
        exact case_3 s t c hs ht k hl hn z0 z1 z2 z3 z4 z5 z6 z7 k2 hl2 hn2 v0 v1 v2 v3 v4 v5 v6 v7 is false w hG cA cB cC q0 q1 q2 q3
      have q3 : ((c.toNat : Int) == 37) = false := beq_eq_false_iff_ne.2 p3
      by_cases p4 : ((c.toNat : Int) = 64)
      · have q4 : ((c.toNat : Int) == 64) = true := beq_iff_eq.2 p4
        have hz := hno (decide_eq_true (Or.inr (Or.inr (Or.inr (Or.inr (Or.inl (nat 64 (by decide) p4)))))))
        subst hz
        exact case_4 s t c hs ht k hl hn z0 z1 z2 z3 z4 z5 z6 z7 k2 hl2 hn2 v0 v1 v2 v3 v4 v5 v6 v7 is false w hG cA cB cC q0 q1 q2 q3 q4
      have q4 : ((c.toNat : Int) == 64) = false := beq_eq_false_iff_ne.2 p4
      by_cases p5 : ((c.toNat : Int) = 63)
      · have q5 : ((c.toNat : Int) == 63) = true := beq_iff_eq.2 p5
        have hz := hno (decide_eq_true (Or.inr (Or.inr (Or.inr (Or.inr (Or.inr (Or.inl (nat 63 (by decide) p5))))))))
        subst hz
        exact case_5 s t c hs ht k hl hn z0 z1 z2 z3 z4 z5 z6 z7 k2 hl2 hn2 v0 v1 v2 v3 v4 v5 v6 v7 is false w hG cA cB cC q0 q1 q2 q3 q4 q5
      have q5 : ((c.toNat : Int) == 63) = false := beq_eq_false_iff_ne.2 p5
      by_cases p6 : ((c.toNat : Int) = 35)
      · have q6 : ((c.toNat : Int) == 35) = true := beq_iff_eq.2 p6
        have hz := hno (decide_eq_true (Or.inr (Or.inr (Or.inr (Or.inr (Or.inr (Or.inr (Or.inl (nat 35 (by decide) p6)))))))))
        subst hz
        exact case_6 s t c hs ht k hl hn z0 z1 z2 z3 z4 z5 z6 z7 k2 hl2 hn2 v0 v1 v2 v3 v4 v5 v6 v7 is false w hG cA cB cC q0 q1 q2 q3 q4 q5 q6
      have q6 : ((c.toNat : Int) == 35) = false := beq_eq_false_iff_ne.2 p6
      by_cases p7 : ((c.toNat : Int) = 92)
      · have q7 : ((c.toNat : Int) == 92) = true := beq_iff_eq.2 p7
        have hz := hno (decide_eq_true (Or.inr (Or.inr (Or.inr (Or.inr (Or.inr (Or.inr (Or.inr ((nat 92 (by decide) p7))))))))))
        subst hz
        exact case_7 s t c hs ht k hl hn z0 z1 z2 z3 z4 z5 z6 z7 k2 hl2 hn2 v0 v1 v2 v3 v4 v5 v6 v7 is false w hG cA cB cC q0 q1 q2 q3 q4 q5 q6 q7
      have q7 : ((c.toNat : Int) == 92) = false := beq_eq_false_iff_ne.2 p7
      exact case_8 s t c hs ht k hl hn z0 z1 z2 z3 z4 z5 z6 z7 k2 hl2 hn2 v0 v1 v2 v3 v4 v5 v6 v7 is no w hG cA cB cC q0 q1 q2 q3 q4 q5 q6 q7
    · have d1 : decide ((150 : Int) < (s.size : Int)) = false := decide_eq_false (by omega)
      have d2 : decide ((150 : Int) < (t.size : Int)) = true := decide_eq_true (by omega)
      go_enter Tryd.func5, Tryd.ntmps5
      go_wp2_with fail
      refine (awake7 w hG).mono ?_
      rintro e w1 ⟨rfl, hb1⟩
      go_wp2
      go_ret
      exact ⟨rfl, hb1⟩
  · have d1 : decide ((150 : Int) < (s.size : Int)) = true := decide_eq_true (by omega)
    go_enter Tryd.func5, Tryd.ntmps5
    go_wp2_with fail
    refine (awake7 w hG).mono ?_
    rintro e w1 ⟨rfl, hb1⟩
    go_wp2
    go_ret
    exact ⟨rfl, hb1⟩

end Go.Proofs.YtcpjonglfnakpaaDoor
