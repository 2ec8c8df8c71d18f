/- The law HostCase, walked over the contracts. -/
import Derived.Test.YtcpjonglfnakpaaDoorLaw7
import Derived.Test.YtcpjonglfnakpaaDoorMH
import Derived.Test.YtcpjonglfnakpaaDoorMB
namespace Go.Proofs.YtcpjonglfnakpaaDoor
open Go.RowKit Go.Proofs.YtcpjonglfnakpaaDoorW.PrintWords

theorem str_one {P : Program} {w : World} {g : Nat} {T : TypeId} {fr : Nat × Nat} (c : UInt8) (h : w.heap[g]? = some (.cells #[.int .u8 c.toNat] T fr)) {src dst e : TypeId} (hs : P.underlying src = some (.slice e)) (he : P.underlying e = some (.int .u8)) (hd : P.underlying dst = some .string) :
    (convert src dst (.slice (some ⟨g, 0, none⟩) 1 1)).run P w = .ok (.string ⟨#[c]⟩) w := by
  rw [run_convert_bytes_arg w src e hs he g 0 1 1 [(c.toNat : Int)] rfl (fun i hi => ?_) dst hd]
  · unfold strOfNums
    simp
  · obtain rfl : i = 0 := by omega
    rw [cell_of_row w g 0 _ T _ h]; rfl
theorem upA_wrap : ∀ n : Nat, n < 256 → 97 ≤ n → n ≤ 122 → IntKind.u8.wrap ((n : Int) - 32) = ((upA (UInt8.ofNat n)).toNat : Int) := by decide +kernel
theorem upA_small {c : UInt8} (h : ¬ (97 ≤ c.toNat ∧ c.toNat ≤ 122)) : upA c = c := by unfold upA; rw [if_neg h]
section
variable {f : UInt8 → UInt8} {l : List UInt8} {k : Nat} {c : UInt8}
theorem part_at (h : l[k]? = some c) : ((l.take k).map f ++ l.drop k)[k]? = some c := by
  have hk := (List.getElem?_eq_some_iff.1 h).1
  rw [List.getElem?_append_right (by simp; omega), List.length_map, List.length_take, Nat.min_eq_left (by omega), Nat.sub_self, List.getElem?_drop, Nat.add_zero]
  exact h
theorem part_same (h : l[k]? = some c) (hf : f c = c) : (l.take k).map f ++ l.drop k = (l.take (k + 1)).map f ++ l.drop (k + 1) := by
  obtain ⟨hk, he⟩ := List.getElem?_eq_some_iff.1 h
  rw [List.take_add_one, h, List.drop_eq_getElem_cons hk, he]
  simp [hf]
theorem part_step (h : l[k]? = some c) : ((l.take k).map f ++ l.drop k).set k (f c) = (l.take (k + 1)).map f ++ l.drop (k + 1) := by
  obtain ⟨hk, he⟩ := List.getElem?_eq_some_iff.1 h
  have e1 : k - ((l.take k).map f).length = 0 := by rw [List.length_map, List.length_take]; omega
  rw [List.set_append_right _ _ (by rw [List.length_map, List.length_take]; omega), e1, List.drop_eq_getElem_cons hk, List.set_cons_zero, List.take_add_one, h]
  simp
end

set_option maxHeartbeats 8000000 in
set_option maxRecDepth 100000 in
theorem case_0 (s t : ByteArray) (c : UInt8) (hs : s.size ≤ 150) (ht : t.size ≤ 150) (k : Int) (hl : ByteArray) (hn z0 z1 z2 z3 z4 z5 z6 z7 k2 : Int) (hl2 : ByteArray) (hn2 v0 v1 v2 v3 v4 v5 v6 v7 : Int) (is no : Bool) (w : World) (hG : Good w)
    (cA : ∀ w1, Good w1 → Calls Tryd.prog 10 #[.string s] w1 fun e w' => e = .returned (.tuple #[.agg #[.int .i64 k, .string hl, .int .i64 hn, .int .i64 z0, .int .i64 z1, .int .i64 z2, .int .i64 z3, .int .i64 z4, .int .i64 z5, .int .i64 z6, .int .i64 z7], .bool is]) ∧ Below w1.heap.size w1 w')
    (cB : ∀ w1, Good w1 → Calls Tryd.prog 10 #[.string ⟨(s.data.toList.map upA).toArray⟩] w1 fun e w' => e = .returned (.tuple #[.agg #[.int .i64 k, .string hl, .int .i64 hn, .int .i64 z0, .int .i64 z1, .int .i64 z2, .int .i64 z3, .int .i64 z4, .int .i64 z5, .int .i64 z6, .int .i64 z7], .bool is]) ∧ Below w1.heap.size w1 w')
    (cC : ∀ w1, Good w1 → Calls Tryd.prog 10 #[.string (s ++ ⟨#[c]⟩ ++ t)] w1 fun e w' => e = .returned (.tuple #[.agg #[.int .i64 k2, .string hl2, .int .i64 hn2, .int .i64 v0, .int .i64 v1, .int .i64 v2, .int .i64 v3, .int .i64 v4, .int .i64 v5, .int .i64 v6, .int .i64 v7], .bool false]) ∧ Below w1.heap.size w1 w') (q0 : decide ((c.toNat : Int) ≤ 32) = true) :
    Calls Tryd.prog 5 #[.string s, .int .u8 c.toNat, .string t] w fun e w' => e = .returned (.bool true) ∧ Below w.heap.size w w' := by
  have d1 : decide ((150 : Int) < (s.size : Int)) = false := decide_eq_false (by omega)
  have d2 : decide ((150 : Int) < (t.size : Int)) = false := decide_eq_false (by omega)
  have hlen : s.data.toList.length = s.size := (size_list s).symm
  have hq : (is == is) = true := beq_self_eq_true is
  have hE := fun w => eqHost k hl hn z0 z1 z2 z3 z4 z5 z6 z7 k hl hn z0 z1 z2 z3 z4 z5 z6 z7 w
  simp only [beq_self_eq_true, Bool.and_true] at hE
  unfold hV at hE
  have hk0 := Ok.refl hG
  go_enter Tryd.func5, Tryd.ntmps5
  go_wp2_with fail
  refine (awake7 w hk0.good).mono ?_
  rintro e w1 ⟨rfl, hb1⟩
  have hkc1 := hk0.step hb1
  obtain ⟨cap, w4, hcv, hB4, hb4⟩ := ByteBlk.made (P := Tryd.prog) w1 9 32 5 s Tryd.underlying9 Tryd.underlying32 Tryd.underlying5
  have hk4 := hkc1.step hb4
  have hB4lt := hB4.lt
  obtain ⟨g, hg⟩ : ∃ g, w1.heap.size = g := ⟨_, rfl⟩
  rw [hg] at hB4 hcv hB4lt
  have hgw : w.heap.size ≤ g := by rw [← hg]; exact hkc1.below.size
  go_wp2
  go_loopw [9] (fun i wr => ∃ k : Nat, k ≤ s.size ∧ i = .int .i64 k ∧ ByteBlk wr g 5 ((s.data.toList.take k).map upA ++ s.data.toList.drop k) ∧ Ok w wr) (fun i _ => s.size - (intOf i).toNat)
  case atStart => exact ⟨0, by omega, rfl, by simpa using hB4, hk4⟩
  case round =>
    obtain ⟨wy, rfl⟩ : ∃ wy, wy = wr := ⟨_, rfl⟩
    obtain ⟨j, hj, rfl, hB5, hk5⟩ := hrel
    clear hB4 hk4 hcv
    by_cases hjs : j < s.size
    · obtain ⟨b, hb⟩ : ∃ b, s.data.toList[j]? = some b := ⟨_, List.getElem?_eq_getElem (by omega)⟩
      have hlk : j < ((s.data.toList.take j).map upA ++ s.data.toList.drop j).length := by simp; omega
      have hcell := hB5.cell (part_at hb)
      have hfree := hB5.free hlk
      have hset := hB5.set hlk (upA b)
      rw [part_step hb] at hset
      have hb6 : ∀ v, Ok w (wy.setCell ⟨g, j, none⟩ v) := fun v => ⟨hk5.below.setCell hgw _, hG.below (hk5.below.setCell hgw _)⟩
      have hcc : Hid (upA b = b → ByteBlk wy g 5 ((s.data.toList.take (j + 1)).map upA ++ s.data.toList.drop (j + 1))) := fun h => by rw [← part_same hb h]; exact hB5
      clear hb cA cB cC hE
      have c256 := b.toNat_lt
      by_cases h1 : 97 ≤ b.toNat
      · by_cases h2 : b.toNat ≤ 122
        · have hw := upA_wrap b.toNat c256 h1 h2
          rw [UInt8.ofNat_toNat] at hw
          go_wp2
          exact ⟨⟨j + 1, by omega, by go_num, hset, hb6 _⟩, by simp [intOf]; omega⟩
        · go_wp2
          exact ⟨⟨j + 1, by omega, by go_num, hcc.out (upA_small (by omega)), hk5⟩, by simp [intOf]; omega⟩
      · go_wp2
        exact ⟨⟨j + 1, by omega, by go_num, hcc.out (upA_small (by omega)), hk5⟩, by simp [intOf]; omega⟩
    · obtain rfl : j = s.size := by omega
      rw [List.take_of_length_le (by omega), List.drop_eq_nil_of_le (by omega), List.append_nil] at hB5
      go_wp2_with fail
      refine (cA wy hk5.good).mono ?_
      rintro e w11 ⟨rfl, hb11⟩
      have hkc11 := hk5.step hb11
      have hB6 := hB5.below hb11 hB5.lt
      have hst := (hB6.below ((Below.refl _ _).alloc (Nat.le_refl _) (.cells #[.int .i64 k, .string hl, .int .i64 hn, .int .i64 z0, .int .i64 z1, .int .i64 z2, .int .i64 z3, .int .i64 z4, .int .i64 z5, .int .i64 z6, .int .i64 z7] 24)) hB6.lt).str (P := Tryd.prog) (src := 32) (dst := 9) Tryd.underlying32 Tryd.underlying5 Tryd.underlying9 (n := s.size) (cap := cap) (by rw [List.length_map]; exact hlen)
      have rA1 := heap_alloc_new w11 (.cells #[.int .i64 k, .string hl, .int .i64 hn, .int .i64 z0, .int .i64 z1, .int .i64 z2, .int .i64 z3, .int .i64 z4, .int .i64 z5, .int .i64 z6, .int .i64 z7] 24)
      have hka1 := hkc11.alloc (.cells #[.int .i64 k, .string hl, .int .i64 hn, .int .i64 z0, .int .i64 z1, .int .i64 z2, .int .i64 z3, .int .i64 z4, .int .i64 z5, .int .i64 z6, .int .i64 z7] 24)
      go_wp2_with fail
      refine (cB (w11.alloc (.cells #[.int .i64 k, .string hl, .int .i64 hn, .int .i64 z0, .int .i64 z1, .int .i64 z2, .int .i64 z3, .int .i64 z4, .int .i64 z5, .int .i64 z6, .int .i64 z7] 24)) hka1.good).mono ?_
      rintro e w12 ⟨rfl, hb12⟩
      have hkc12 := hka1.step hb12
      have rA2 := block_below rA1 hb12 (lt_of_block rA1)
      have rAa3 := block_alloc rA2 (.cells #[.int .i64 k, .string hl, .int .i64 hn, .int .i64 z0, .int .i64 z1, .int .i64 z2, .int .i64 z3, .int .i64 z4, .int .i64 z5, .int .i64 z6, .int .i64 z7] 24)
      have rB3 := heap_alloc_new w12 (.cells #[.int .i64 k, .string hl, .int .i64 hn, .int .i64 z0, .int .i64 z1, .int .i64 z2, .int .i64 z3, .int .i64 z4, .int .i64 z5, .int .i64 z6, .int .i64 z7] 24)
      have hka3 := hkc12.alloc (.cells #[.int .i64 k, .string hl, .int .i64 hn, .int .i64 z0, .int .i64 z1, .int .i64 z2, .int .i64 z3, .int .i64 z4, .int .i64 z5, .int .i64 z6, .int .i64 z7] 24)
      obtain ⟨cA0, cA1, cA2, cA3, cA4, cA5, cA6, cA7, cA8, cA9, cA10⟩ := host_cells rAa3
      obtain ⟨cB0, cB1, cB2, cB3, cB4, cB5, cB6, cB7, cB8, cB9, cB10⟩ := host_cells rB3
      have hone := str_one c (heap_alloc_new (w12.alloc (.cells #[.int .i64 k, .string hl, .int .i64 hn, .int .i64 z0, .int .i64 z1, .int .i64 z2, .int .i64 z3, .int .i64 z4, .int .i64 z5, .int .i64 z6, .int .i64 z7] 24)) (.cells #[.int .u8 c.toNat] 5)) Tryd.underlying32 Tryd.underlying5 Tryd.underlying9
      rw [World.size_alloc] at hone
      have rAa4 := block_alloc rAa3 (.cells #[.int .u8 c.toNat] 5)
      have rBa4 := block_alloc rB3 (.cells #[.int .u8 c.toNat] 5)
      have rO4 := heap_alloc_new (w12.alloc (.cells #[.int .i64 k, .string hl, .int .i64 hn, .int .i64 z0, .int .i64 z1, .int .i64 z2, .int .i64 z3, .int .i64 z4, .int .i64 z5, .int .i64 z6, .int .i64 z7] 24)) (.cells #[.int .u8 c.toNat] 5)
      have hka4 := hka3.alloc (.cells #[.int .u8 c.toNat] 5)
      go_wp2_with fail
      refine (cC ((w12.alloc (.cells #[.int .i64 k, .string hl, .int .i64 hn, .int .i64 z0, .int .i64 z1, .int .i64 z2, .int .i64 z3, .int .i64 z4, .int .i64 z5, .int .i64 z6, .int .i64 z7] 24)).alloc (.cells #[.int .u8 c.toNat] 5)) hka4.good).mono ?_
      rintro e w13 ⟨rfl, hb13⟩
      have hkc13 := hka4.step hb13
      clear cA0 cA1 cA2 cA3 cA4 cA5 cA6 cA7 cA8 cA9 cA10 cB0 cB1 cB2 cB3 cB4 cB5 cB6 cB7 cB8 cB9 cB10
      have rA5 := block_below rAa4 hb13 (lt_of_block rAa4)
      have rB6 := block_below rBa4 hb13 (lt_of_block rBa4)
      have rAa7 := block_alloc rA5 (.cells #[.int .i64 k2, .string hl2, .int .i64 hn2, .int .i64 v0, .int .i64 v1, .int .i64 v2, .int .i64 v3, .int .i64 v4, .int .i64 v5, .int .i64 v6, .int .i64 v7] 24)
      have rBa7 := block_alloc rB6 (.cells #[.int .i64 k2, .string hl2, .int .i64 hn2, .int .i64 v0, .int .i64 v1, .int .i64 v2, .int .i64 v3, .int .i64 v4, .int .i64 v5, .int .i64 v6, .int .i64 v7] 24)
      have rC7 := heap_alloc_new w13 (.cells #[.int .i64 k2, .string hl2, .int .i64 hn2, .int .i64 v0, .int .i64 v1, .int .i64 v2, .int .i64 v3, .int .i64 v4, .int .i64 v5, .int .i64 v6, .int .i64 v7] 24)
      have hka7 := hkc13.alloc (.cells #[.int .i64 k2, .string hl2, .int .i64 hn2, .int .i64 v0, .int .i64 v1, .int .i64 v2, .int .i64 v3, .int .i64 v4, .int .i64 v5, .int .i64 v6, .int .i64 v7] 24)
      obtain ⟨cA0, cA1, cA2, cA3, cA4, cA5, cA6, cA7, cA8, cA9, cA10⟩ := host_cells rAa7
      obtain ⟨cB0, cB1, cB2, cB3, cB4, cB5, cB6, cB7, cB8, cB9, cB10⟩ := host_cells rBa7
      obtain ⟨cC0, cC1, cC2, cC3, cC4, cC5, cC6, cC7, cC8, cC9, cC10⟩ := host_cells rC7
      go_wp2
      go_ret
      exact ⟨rfl, hka7.below⟩

set_option maxHeartbeats 8000000 in
set_option maxRecDepth 100000 in
theorem case_1 (s t : ByteArray) (c : UInt8) (hs : s.size ≤ 150) (ht : t.size ≤ 150) (k : Int) (hl : ByteArray) (hn z0 z1 z2 z3 z4 z5 z6 z7 k2 : Int) (hl2 : ByteArray) (hn2 v0 v1 v2 v3 v4 v5 v6 v7 : Int) (is no : Bool) (w : World) (hG : Good w)
    (cA : ∀ w1, Good w1 → Calls Tryd.prog 10 #[.string s] w1 fun e w' => e = .returned (.tuple #[.agg #[.int .i64 k, .string hl, .int .i64 hn, .int .i64 z0, .int .i64 z1, .int .i64 z2, .int .i64 z3, .int .i64 z4, .int .i64 z5, .int .i64 z6, .int .i64 z7], .bool is]) ∧ Below w1.heap.size w1 w')
    (cB : ∀ w1, Good w1 → Calls Tryd.prog 10 #[.string ⟨(s.data.toList.map upA).toArray⟩] w1 fun e w' => e = .returned (.tuple #[.agg #[.int .i64 k, .string hl, .int .i64 hn, .int .i64 z0, .int .i64 z1, .int .i64 z2, .int .i64 z3, .int .i64 z4, .int .i64 z5, .int .i64 z6, .int .i64 z7], .bool is]) ∧ Below w1.heap.size w1 w')
    (cC : ∀ w1, Good w1 → Calls Tryd.prog 10 #[.string (s ++ ⟨#[c]⟩ ++ t)] w1 fun e w' => e = .returned (.tuple #[.agg #[.int .i64 k2, .string hl2, .int .i64 hn2, .int .i64 v0, .int .i64 v1, .int .i64 v2, .int .i64 v3, .int .i64 v4, .int .i64 v5, .int .i64 v6, .int .i64 v7], .bool false]) ∧ Below w1.heap.size w1 w') (q0 : decide ((c.toNat : Int) ≤ 32) = false) (q1 : decide ((127 : Int) ≤ (c.toNat : Int)) = true) :
    Calls Tryd.prog 5 #[.string s, .int .u8 c.toNat, .string t] w fun e w' => e = .returned (.bool true) ∧ Below w.heap.size w w' := by
  have d1 : decide ((150 : Int) < (s.size : Int)) = false := decide_eq_false (by omega)
  have d2 : decide ((150 : Int) < (t.size : Int)) = false := decide_eq_false (by omega)
  have hlen : s.data.toList.length = s.size := (size_list s).symm
  have hq : (is == is) = true := beq_self_eq_true is
  have hE := fun w => eqHost k hl hn z0 z1 z2 z3 z4 z5 z6 z7 k hl hn z0 z1 z2 z3 z4 z5 z6 z7 w
  simp only [beq_self_eq_true, Bool.and_true] at hE
  unfold hV at hE
  have hk0 := Ok.refl hG
  go_enter Tryd.func5, Tryd.ntmps5
  go_wp2_with fail
  refine (awake7 w hk0.good).mono ?_
  rintro e w1 ⟨rfl, hb1⟩
  have hkc1 := hk0.step hb1
  obtain ⟨cap, w4, hcv, hB4, hb4⟩ := ByteBlk.made (P := Tryd.prog) w1 9 32 5 s Tryd.underlying9 Tryd.underlying32 Tryd.underlying5
  have hk4 := hkc1.step hb4
  have hB4lt := hB4.lt
  obtain ⟨g, hg⟩ : ∃ g, w1.heap.size = g := ⟨_, rfl⟩
  rw [hg] at hB4 hcv hB4lt
  have hgw : w.heap.size ≤ g := by rw [← hg]; exact hkc1.below.size
  go_wp2
  go_loopw [9] (fun i wr => ∃ k : Nat, k ≤ s.size ∧ i = .int .i64 k ∧ ByteBlk wr g 5 ((s.data.toList.take k).map upA ++ s.data.toList.drop k) ∧ Ok w wr) (fun i _ => s.size - (intOf i).toNat)
  case atStart => exact ⟨0, by omega, rfl, by simpa using hB4, hk4⟩
  case round =>
    obtain ⟨wy, rfl⟩ : ∃ wy, wy = wr := ⟨_, rfl⟩
    obtain ⟨j, hj, rfl, hB5, hk5⟩ := hrel
    clear hB4 hk4 hcv
    by_cases hjs : j < s.size
    · obtain ⟨b, hb⟩ : ∃ b, s.data.toList[j]? = some b := ⟨_, List.getElem?_eq_getElem (by omega)⟩
      have hlk : j < ((s.data.toList.take j).map upA ++ s.data.toList.drop j).length := by simp; omega
      have hcell := hB5.cell (part_at hb)
      have hfree := hB5.free hlk
      have hset := hB5.set hlk (upA b)
      rw [part_step hb] at hset
      have hb6 : ∀ v, Ok w (wy.setCell ⟨g, j, none⟩ v) := fun v => ⟨hk5.below.setCell hgw _, hG.below (hk5.below.setCell hgw _)⟩
      have hcc : Hid (upA b = b → ByteBlk wy g 5 ((s.data.toList.take (j + 1)).map upA ++ s.data.toList.drop (j + 1))) := fun h => by rw [← part_same hb h]; exact hB5
      clear hb cA cB cC hE
      have c256 := b.toNat_lt
      by_cases h1 : 97 ≤ b.toNat
      · by_cases h2 : b.toNat ≤ 122
        · have hw := upA_wrap b.toNat c256 h1 h2
          rw [UInt8.ofNat_toNat] at hw
          go_wp2
          exact ⟨⟨j + 1, by omega, by go_num, hset, hb6 _⟩, by simp [intOf]; omega⟩
        · go_wp2
          exact ⟨⟨j + 1, by omega, by go_num, hcc.out (upA_small (by omega)), hk5⟩, by simp [intOf]; omega⟩
      · go_wp2
        exact ⟨⟨j + 1, by omega, by go_num, hcc.out (upA_small (by omega)), hk5⟩, by simp [intOf]; omega⟩
    · obtain rfl : j = s.size := by omega
      rw [List.take_of_length_le (by omega), List.drop_eq_nil_of_le (by omega), List.append_nil] at hB5
      go_wp2_with fail
      refine (cA wy hk5.good).mono ?_
      rintro e w11 ⟨rfl, hb11⟩
      have hkc11 := hk5.step hb11
      have hB6 := hB5.below hb11 hB5.lt
      have hst := (hB6.below ((Below.refl _ _).alloc (Nat.le_refl _) (.cells #[.int .i64 k, .string hl, .int .i64 hn, .int .i64 z0, .int .i64 z1, .int .i64 z2, .int .i64 z3, .int .i64 z4, .int .i64 z5, .int .i64 z6, .int .i64 z7] 24)) hB6.lt).str (P := Tryd.prog) (src := 32) (dst := 9) Tryd.underlying32 Tryd.underlying5 Tryd.underlying9 (n := s.size) (cap := cap) (by rw [List.length_map]; exact hlen)
      have rA1 := heap_alloc_new w11 (.cells #[.int .i64 k, .string hl, .int .i64 hn, .int .i64 z0, .int .i64 z1, .int .i64 z2, .int .i64 z3, .int .i64 z4, .int .i64 z5, .int .i64 z6, .int .i64 z7] 24)
      have hka1 := hkc11.alloc (.cells #[.int .i64 k, .string hl, .int .i64 hn, .int .i64 z0, .int .i64 z1, .int .i64 z2, .int .i64 z3, .int .i64 z4, .int .i64 z5, .int .i64 z6, .int .i64 z7] 24)
      go_wp2_with fail
      refine (cB (w11.alloc (.cells #[.int .i64 k, .string hl, .int .i64 hn, .int .i64 z0, .int .i64 z1, .int .i64 z2, .int .i64 z3, .int .i64 z4, .int .i64 z5, .int .i64 z6, .int .i64 z7] 24)) hka1.good).mono ?_
      rintro e w12 ⟨rfl, hb12⟩
      have hkc12 := hka1.step hb12
      have rA2 := block_below rA1 hb12 (lt_of_block rA1)
      have rAa3 := block_alloc rA2 (.cells #[.int .i64 k, .string hl, .int .i64 hn, .int .i64 z0, .int .i64 z1, .int .i64 z2, .int .i64 z3, .int .i64 z4, .int .i64 z5, .int .i64 z6, .int .i64 z7] 24)
      have rB3 := heap_alloc_new w12 (.cells #[.int .i64 k, .string hl, .int .i64 hn, .int .i64 z0, .int .i64 z1, .int .i64 z2, .int .i64 z3, .int .i64 z4, .int .i64 z5, .int .i64 z6, .int .i64 z7] 24)
      have hka3 := hkc12.alloc (.cells #[.int .i64 k, .string hl, .int .i64 hn, .int .i64 z0, .int .i64 z1, .int .i64 z2, .int .i64 z3, .int .i64 z4, .int .i64 z5, .int .i64 z6, .int .i64 z7] 24)
      obtain ⟨cA0, cA1, cA2, cA3, cA4, cA5, cA6, cA7, cA8, cA9, cA10⟩ := host_cells rAa3
      obtain ⟨cB0, cB1, cB2, cB3, cB4, cB5, cB6, cB7, cB8, cB9, cB10⟩ := host_cells rB3
      have hone := str_one c (heap_alloc_new (w12.alloc (.cells #[.int .i64 k, .string hl, .int .i64 hn, .int .i64 z0, .int .i64 z1, .int .i64 z2, .int .i64 z3, .int .i64 z4, .int .i64 z5, .int .i64 z6, .int .i64 z7] 24)) (.cells #[.int .u8 c.toNat] 5)) Tryd.underlying32 Tryd.underlying5 Tryd.underlying9
      rw [World.size_alloc] at hone
      have rAa4 := block_alloc rAa3 (.cells #[.int .u8 c.toNat] 5)
      have rBa4 := block_alloc rB3 (.cells #[.int .u8 c.toNat] 5)
      have rO4 := heap_alloc_new (w12.alloc (.cells #[.int .i64 k, .string hl, .int .i64 hn, .int .i64 z0, .int .i64 z1, .int .i64 z2, .int .i64 z3, .int .i64 z4, .int .i64 z5, .int .i64 z6, .int .i64 z7] 24)) (.cells #[.int .u8 c.toNat] 5)
      have hka4 := hka3.alloc (.cells #[.int .u8 c.toNat] 5)
      go_wp2_with fail
      refine (cC ((w12.alloc (.cells #[.int .i64 k, .string hl, .int .i64 hn, .int .i64 z0, .int .i64 z1, .int .i64 z2, .int .i64 z3, .int .i64 z4, .int .i64 z5, .int .i64 z6, .int .i64 z7] 24)).alloc (.cells #[.int .u8 c.toNat] 5)) hka4.good).mono ?_
      rintro e w13 ⟨rfl, hb13⟩
      have hkc13 := hka4.step hb13
      clear cA0 cA1 cA2 cA3 cA4 cA5 cA6 cA7 cA8 cA9 cA10 cB0 cB1 cB2 cB3 cB4 cB5 cB6 cB7 cB8 cB9 cB10
      have rA5 := block_below rAa4 hb13 (lt_of_block rAa4)
      have rB6 := block_below rBa4 hb13 (lt_of_block rBa4)
      have rAa7 := block_alloc rA5 (.cells #[.int .i64 k2, .string hl2, .int .i64 hn2, .int .i64 v0, .int .i64 v1, .int .i64 v2, .int .i64 v3, .int .i64 v4, .int .i64 v5, .int .i64 v6, .int .i64 v7] 24)
      have rBa7 := block_alloc rB6 (.cells #[.int .i64 k2, .string hl2, .int .i64 hn2, .int .i64 v0, .int .i64 v1, .int .i64 v2, .int .i64 v3, .int .i64 v4, .int .i64 v5, .int .i64 v6, .int .i64 v7] 24)
      have rC7 := heap_alloc_new w13 (.cells #[.int .i64 k2, .string hl2, .int .i64 hn2, .int .i64 v0, .int .i64 v1, .int .i64 v2, .int .i64 v3, .int .i64 v4, .int .i64 v5, .int .i64 v6, .int .i64 v7] 24)
      have hka7 := hkc13.alloc (.cells #[.int .i64 k2, .string hl2, .int .i64 hn2, .int .i64 v0, .int .i64 v1, .int .i64 v2, .int .i64 v3, .int .i64 v4, .int .i64 v5, .int .i64 v6, .int .i64 v7] 24)
      obtain ⟨cA0, cA1, cA2, cA3, cA4, cA5, cA6, cA7, cA8, cA9, cA10⟩ := host_cells rAa7
      obtain ⟨cB0, cB1, cB2, cB3, cB4, cB5, cB6, cB7, cB8, cB9, cB10⟩ := host_cells rBa7
      obtain ⟨cC0, cC1, cC2, cC3, cC4, cC5, cC6, cC7, cC8, cC9, cC10⟩ := host_cells rC7
      go_wp2
      go_ret
      exact ⟨rfl, hka7.below⟩

set_option maxHeartbeats 8000000 in
set_option maxRecDepth 100000 in
theorem case_2 (s t : ByteArray) (c : UInt8) (hs : s.size ≤ 150) (ht : t.size ≤ 150) (k : Int) (hl : ByteArray) (hn z0 z1 z2 z3 z4 z5 z6 z7 k2 : Int) (hl2 : ByteArray) (hn2 v0 v1 v2 v3 v4 v5 v6 v7 : Int) (is no : Bool) (w : World) (hG : Good w)
    (cA : ∀ w1, Good w1 → Calls Tryd.prog 10 #[.string s] w1 fun e w' => e = .returned (.tuple #[.agg #[.int .i64 k, .string hl, .int .i64 hn, .int .i64 z0, .int .i64 z1, .int .i64 z2, .int .i64 z3, .int .i64 z4, .int .i64 z5, .int .i64 z6, .int .i64 z7], .bool is]) ∧ Below w1.heap.size w1 w')
    (cB : ∀ w1, Good w1 → Calls Tryd.prog 10 #[.string ⟨(s.data.toList.map upA).toArray⟩] w1 fun e w' => e = .returned (.tuple #[.agg #[.int .i64 k, .string hl, .int .i64 hn, .int .i64 z0, .int .i64 z1, .int .i64 z2, .int .i64 z3, .int .i64 z4, .int .i64 z5, .int .i64 z6, .int .i64 z7], .bool is]) ∧ Below w1.heap.size w1 w')
    (cC : ∀ w1, Good w1 → Calls Tryd.prog 10 #[.string (s ++ ⟨#[c]⟩ ++ t)] w1 fun e w' => e = .returned (.tuple #[.agg #[.int .i64 k2, .string hl2, .int .i64 hn2, .int .i64 v0, .int .i64 v1, .int .i64 v2, .int .i64 v3, .int .i64 v4, .int .i64 v5, .int .i64 v6, .int .i64 v7], .bool false]) ∧ Below w1.heap.size w1 w') (q0 : decide ((c.toNat : Int) ≤ 32) = false) (q1 : decide ((127 : Int) ≤ (c.toNat : Int)) = false) (q2 : ((c.toNat : Int) == 47) = true) :
    Calls Tryd.prog 5 #[.string s, .int .u8 c.toNat, .string t] w fun e w' => e = .returned (.bool true) ∧ Below w.heap.size w w' := by
  have d1 : decide ((150 : Int) < (s.size : Int)) = false := decide_eq_false (by omega)
  have d2 : decide ((150 : Int) < (t.size : Int)) = false := decide_eq_false (by omega)
  have hlen : s.data.toList.length = s.size := (size_list s).symm
  have hq : (is == is) = true := beq_self_eq_true is
  have hE := fun w => eqHost k hl hn z0 z1 z2 z3 z4 z5 z6 z7 k hl hn z0 z1 z2 z3 z4 z5 z6 z7 w
  simp only [beq_self_eq_true, Bool.and_true] at hE
  unfold hV at hE
  have hk0 := Ok.refl hG
  go_enter Tryd.func5, Tryd.ntmps5
  go_wp2_with fail
  refine (awake7 w hk0.good).mono ?_
  rintro e w1 ⟨rfl, hb1⟩
  have hkc1 := hk0.step hb1
  obtain ⟨cap, w4, hcv, hB4, hb4⟩ := ByteBlk.made (P := Tryd.prog) w1 9 32 5 s Tryd.underlying9 Tryd.underlying32 Tryd.underlying5
  have hk4 := hkc1.step hb4
  have hB4lt := hB4.lt
  obtain ⟨g, hg⟩ : ∃ g, w1.heap.size = g := ⟨_, rfl⟩
  rw [hg] at hB4 hcv hB4lt
  have hgw : w.heap.size ≤ g := by rw [← hg]; exact hkc1.below.size
  go_wp2
  go_loopw [9] (fun i wr => ∃ k : Nat, k ≤ s.size ∧ i = .int .i64 k ∧ ByteBlk wr g 5 ((s.data.toList.take k).map upA ++ s.data.toList.drop k) ∧ Ok w wr) (fun i _ => s.size - (intOf i).toNat)
  case atStart => exact ⟨0, by omega, rfl, by simpa using hB4, hk4⟩
  case round =>
    obtain ⟨wy, rfl⟩ : ∃ wy, wy = wr := ⟨_, rfl⟩
    obtain ⟨j, hj, rfl, hB5, hk5⟩ := hrel
    clear hB4 hk4 hcv
    by_cases hjs : j < s.size
    · obtain ⟨b, hb⟩ : ∃ b, s.data.toList[j]? = some b := ⟨_, List.getElem?_eq_getElem (by omega)⟩
      have hlk : j < ((s.data.toList.take j).map upA ++ s.data.toList.drop j).length := by simp; omega
      have hcell := hB5.cell (part_at hb)
      have hfree := hB5.free hlk
      have hset := hB5.set hlk (upA b)
      rw [part_step hb] at hset
      have hb6 : ∀ v, Ok w (wy.setCell ⟨g, j, none⟩ v) := fun v => ⟨hk5.below.setCell hgw _, hG.below (hk5.below.setCell hgw _)⟩
      have hcc : Hid (upA b = b → ByteBlk wy g 5 ((s.data.toList.take (j + 1)).map upA ++ s.data.toList.drop (j + 1))) := fun h => by rw [← part_same hb h]; exact hB5
      clear hb cA cB cC hE
      have c256 := b.toNat_lt
      by_cases h1 : 97 ≤ b.toNat
      · by_cases h2 : b.toNat ≤ 122
        · have hw := upA_wrap b.toNat c256 h1 h2
          rw [UInt8.ofNat_toNat] at hw
          go_wp2
          exact ⟨⟨j + 1, by omega, by go_num, hset, hb6 _⟩, by simp [intOf]; omega⟩
        · go_wp2
          exact ⟨⟨j + 1, by omega, by go_num, hcc.out (upA_small (by omega)), hk5⟩, by simp [intOf]; omega⟩
      · go_wp2
        exact ⟨⟨j + 1, by omega, by go_num, hcc.out (upA_small (by omega)), hk5⟩, by simp [intOf]; omega⟩
    · obtain rfl : j = s.size := by omega
      rw [List.take_of_length_le (by omega), List.drop_eq_nil_of_le (by omega), List.append_nil] at hB5
      go_wp2_with fail
      refine (cA wy hk5.good).mono ?_
      rintro e w11 ⟨rfl, hb11⟩
      have hkc11 := hk5.step hb11
      have hB6 := hB5.below hb11 hB5.lt
      have hst := (hB6.below ((Below.refl _ _).alloc (Nat.le_refl _) (.cells #[.int .i64 k, .string hl, .int .i64 hn, .int .i64 z0, .int .i64 z1, .int .i64 z2, .int .i64 z3, .int .i64 z4, .int .i64 z5, .int .i64 z6, .int .i64 z7] 24)) hB6.lt).str (P := Tryd.prog) (src := 32) (dst := 9) Tryd.underlying32 Tryd.underlying5 Tryd.underlying9 (n := s.size) (cap := cap) (by rw [List.length_map]; exact hlen)
      have rA1 := heap_alloc_new w11 (.cells #[.int .i64 k, .string hl, .int .i64 hn, .int .i64 z0, .int .i64 z1, .int .i64 z2, .int .i64 z3, .int .i64 z4, .int .i64 z5, .int .i64 z6, .int .i64 z7] 24)
      have hka1 := hkc11.alloc (.cells #[.int .i64 k, .string hl, .int .i64 hn, .int .i64 z0, .int .i64 z1, .int .i64 z2, .int .i64 z3, .int .i64 z4, .int .i64 z5, .int .i64 z6, .int .i64 z7] 24)
      go_wp2_with fail
      refine (cB (w11.alloc (.cells #[.int .i64 k, .string hl, .int .i64 hn, .int .i64 z0, .int .i64 z1, .int .i64 z2, .int .i64 z3, .int .i64 z4, .int .i64 z5, .int .i64 z6, .int .i64 z7] 24)) hka1.good).mono ?_
      rintro e w12 ⟨rfl, hb12⟩
      have hkc12 := hka1.step hb12
      have rA2 := block_below rA1 hb12 (lt_of_block rA1)
      have rAa3 := block_alloc rA2 (.cells #[.int .i64 k, .string hl, .int .i64 hn, .int .i64 z0, .int .i64 z1, .int .i64 z2, .int .i64 z3, .int .i64 z4, .int .i64 z5, .int .i64 z6, .int .i64 z7] 24)
      have rB3 := heap_alloc_new w12 (.cells #[.int .i64 k, .string hl, .int .i64 hn, .int .i64 z0, .int .i64 z1, .int .i64 z2, .int .i64 z3, .int .i64 z4, .int .i64 z5, .int .i64 z6, .int .i64 z7] 24)
      have hka3 := hkc12.alloc (.cells #[.int .i64 k, .string hl, .int .i64 hn, .int .i64 z0, .int .i64 z1, .int .i64 z2, .int .i64 z3, .int .i64 z4, .int .i64 z5, .int .i64 z6, .int .i64 z7] 24)
      obtain ⟨cA0, cA1, cA2, cA3, cA4, cA5, cA6, cA7, cA8, cA9, cA10⟩ := host_cells rAa3
      obtain ⟨cB0, cB1, cB2, cB3, cB4, cB5, cB6, cB7, cB8, cB9, cB10⟩ := host_cells rB3
      have hone := str_one c (heap_alloc_new (w12.alloc (.cells #[.int .i64 k, .string hl, .int .i64 hn, .int .i64 z0, .int .i64 z1, .int .i64 z2, .int .i64 z3, .int .i64 z4, .int .i64 z5, .int .i64 z6, .int .i64 z7] 24)) (.cells #[.int .u8 c.toNat] 5)) Tryd.underlying32 Tryd.underlying5 Tryd.underlying9
      rw [World.size_alloc] at hone
      have rAa4 := block_alloc rAa3 (.cells #[.int .u8 c.toNat] 5)
      have rBa4 := block_alloc rB3 (.cells #[.int .u8 c.toNat] 5)
      have rO4 := heap_alloc_new (w12.alloc (.cells #[.int .i64 k, .string hl, .int .i64 hn, .int .i64 z0, .int .i64 z1, .int .i64 z2, .int .i64 z3, .int .i64 z4, .int .i64 z5, .int .i64 z6, .int .i64 z7] 24)) (.cells #[.int .u8 c.toNat] 5)
      have hka4 := hka3.alloc (.cells #[.int .u8 c.toNat] 5)
      go_wp2_with fail
      refine (cC ((w12.alloc (.cells #[.int .i64 k, .string hl, .int .i64 hn, .int .i64 z0, .int .i64 z1, .int .i64 z2, .int .i64 z3, .int .i64 z4, .int .i64 z5, .int .i64 z6, .int .i64 z7] 24)).alloc (.cells #[.int .u8 c.toNat] 5)) hka4.good).mono ?_
      rintro e w13 ⟨rfl, hb13⟩
      have hkc13 := hka4.step hb13
      clear cA0 cA1 cA2 cA3 cA4 cA5 cA6 cA7 cA8 cA9 cA10 cB0 cB1 cB2 cB3 cB4 cB5 cB6 cB7 cB8 cB9 cB10
      have rA5 := block_below rAa4 hb13 (lt_of_block rAa4)
      have rB6 := block_below rBa4 hb13 (lt_of_block rBa4)
      have rAa7 := block_alloc rA5 (.cells #[.int .i64 k2, .string hl2, .int .i64 hn2, .int .i64 v0, .int .i64 v1, .int .i64 v2, .int .i64 v3, .int .i64 v4, .int .i64 v5, .int .i64 v6, .int .i64 v7] 24)
      have rBa7 := block_alloc rB6 (.cells #[.int .i64 k2, .string hl2, .int .i64 hn2, .int .i64 v0, .int .i64 v1, .int .i64 v2, .int .i64 v3, .int .i64 v4, .int .i64 v5, .int .i64 v6, .int .i64 v7] 24)
      have rC7 := heap_alloc_new w13 (.cells #[.int .i64 k2, .string hl2, .int .i64 hn2, .int .i64 v0, .int .i64 v1, .int .i64 v2, .int .i64 v3, .int .i64 v4, .int .i64 v5, .int .i64 v6, .int .i64 v7] 24)
      have hka7 := hkc13.alloc (.cells #[.int .i64 k2, .string hl2, .int .i64 hn2, .int .i64 v0, .int .i64 v1, .int .i64 v2, .int .i64 v3, .int .i64 v4, .int .i64 v5, .int .i64 v6, .int .i64 v7] 24)
      obtain ⟨cA0, cA1, cA2, cA3, cA4, cA5, cA6, cA7, cA8, cA9, cA10⟩ := host_cells rAa7
      obtain ⟨cB0, cB1, cB2, cB3, cB4, cB5, cB6, cB7, cB8, cB9, cB10⟩ := host_cells rBa7
      obtain ⟨cC0, cC1, cC2, cC3, cC4, cC5, cC6, cC7, cC8, cC9, cC10⟩ := host_cells rC7
      go_wp2
      go_ret
      exact ⟨rfl, hka7.below⟩

set_option maxHeartbeats 8000000 in
set_option maxRecDepth 100000 in
theorem case_3 (s t : ByteArray) (c : UInt8) (hs : s.size ≤ 150) (ht : t.size ≤ 150) (k : Int) (hl : ByteArray) (hn z0 z1 z2 z3 z4 z5 z6 z7 k2 : Int) (hl2 : ByteArray) (hn2 v0 v1 v2 v3 v4 v5 v6 v7 : Int) (is no : Bool) (w : World) (hG : Good w)
    (cA : ∀ w1, Good w1 → Calls Tryd.prog 10 #[.string s] w1 fun e w' => e = .returned (.tuple #[.agg #[.int .i64 k, .string hl, .int .i64 hn, .int .i64 z0, .int .i64 z1, .int .i64 z2, .int .i64 z3, .int .i64 z4, .int .i64 z5, .int .i64 z6, .int .i64 z7], .bool is]) ∧ Below w1.heap.size w1 w')
    (cB : ∀ w1, Good w1 → Calls Tryd.prog 10 #[.string ⟨(s.data.toList.map upA).toArray⟩] w1 fun e w' => e = .returned (.tuple #[.agg #[.int .i64 k, .string hl, .int .i64 hn, .int .i64 z0, .int .i64 z1, .int .i64 z2, .int .i64 z3, .int .i64 z4, .int .i64 z5, .int .i64 z6, .int .i64 z7], .bool is]) ∧ Below w1.heap.size w1 w')
    (cC : ∀ w1, Good w1 → Calls Tryd.prog 10 #[.string (s ++ ⟨#[c]⟩ ++ t)] w1 fun e w' => e = .returned (.tuple #[.agg #[.int .i64 k2, .string hl2, .int .i64 hn2, .int .i64 v0, .int .i64 v1, .int .i64 v2, .int .i64 v3, .int .i64 v4, .int .i64 v5, .int .i64 v6, .int .i64 v7], .bool false]) ∧ Below w1.heap.size w1 w') (q0 : decide ((c.toNat : Int) ≤ 32) = false) (q1 : decide ((127 : Int) ≤ (c.toNat : Int)) = false) (q2 : ((c.toNat : Int) == 47) = false) (q3 : ((c.toNat : Int) == 37) = true) :
    Calls Tryd.prog 5 #[.string s, .int .u8 c.toNat, .string t] w fun e w' => e = .returned (.bool true) ∧ Below w.heap.size w w' := by
  have d1 : decide ((150 : Int) < (s.size : Int)) = false := decide_eq_false (by omega)
  have d2 : decide ((150 : Int) < (t.size : Int)) = false := decide_eq_false (by omega)
  have hlen : s.data.toList.length = s.size := (size_list s).symm
  have hq : (is == is) = true := beq_self_eq_true is
  have hE := fun w => eqHost k hl hn z0 z1 z2 z3 z4 z5 z6 z7 k hl hn z0 z1 z2 z3 z4 z5 z6 z7 w
  simp only [beq_self_eq_true, Bool.and_true] at hE
  unfold hV at hE
  have hk0 := Ok.refl hG
  go_enter Tryd.func5, Tryd.ntmps5
  go_wp2_with fail
  refine (awake7 w hk0.good).mono ?_
  rintro e w1 ⟨rfl, hb1⟩
  have hkc1 := hk0.step hb1
  obtain ⟨cap, w4, hcv, hB4, hb4⟩ := ByteBlk.made (P := Tryd.prog) w1 9 32 5 s Tryd.underlying9 Tryd.underlying32 Tryd.underlying5
  have hk4 := hkc1.step hb4
  have hB4lt := hB4.lt
  obtain ⟨g, hg⟩ : ∃ g, w1.heap.size = g := ⟨_, rfl⟩
  rw [hg] at hB4 hcv hB4lt
  have hgw : w.heap.size ≤ g := by rw [← hg]; exact hkc1.below.size
  go_wp2
  go_loopw [9] (fun i wr => ∃ k : Nat, k ≤ s.size ∧ i = .int .i64 k ∧ ByteBlk wr g 5 ((s.data.toList.take k).map upA ++ s.data.toList.drop k) ∧ Ok w wr) (fun i _ => s.size - (intOf i).toNat)
  case atStart => exact ⟨0, by omega, rfl, by simpa using hB4, hk4⟩
  case round =>
    obtain ⟨wy, rfl⟩ : ∃ wy, wy = wr := ⟨_, rfl⟩
    obtain ⟨j, hj, rfl, hB5, hk5⟩ := hrel
    clear hB4 hk4 hcv
    by_cases hjs : j < s.size
    · obtain ⟨b, hb⟩ : ∃ b, s.data.toList[j]? = some b := ⟨_, List.getElem?_eq_getElem (by omega)⟩
      have hlk : j < ((s.data.toList.take j).map upA ++ s.data.toList.drop j).length := by simp; omega
      have hcell := hB5.cell (part_at hb)
      have hfree := hB5.free hlk
      have hset := hB5.set hlk (upA b)
      rw [part_step hb] at hset
      have hb6 : ∀ v, Ok w (wy.setCell ⟨g, j, none⟩ v) := fun v => ⟨hk5.below.setCell hgw _, hG.below (hk5.below.setCell hgw _)⟩
      have hcc : Hid (upA b = b → ByteBlk wy g 5 ((s.data.toList.take (j + 1)).map upA ++ s.data.toList.drop (j + 1))) := fun h => by rw [← part_same hb h]; exact hB5
      clear hb cA cB cC hE
      have c256 := b.toNat_lt
      by_cases h1 : 97 ≤ b.toNat
      · by_cases h2 : b.toNat ≤ 122
        · have hw := upA_wrap b.toNat c256 h1 h2
          rw [UInt8.ofNat_toNat] at hw
          go_wp2
          exact ⟨⟨j + 1, by omega, by go_num, hset, hb6 _⟩, by simp [intOf]; omega⟩
        · go_wp2
          exact ⟨⟨j + 1, by omega, by go_num, hcc.out (upA_small (by omega)), hk5⟩, by simp [intOf]; omega⟩
      · go_wp2
        exact ⟨⟨j + 1, by omega, by go_num, hcc.out (upA_small (by omega)), hk5⟩, by simp [intOf]; omega⟩
    · obtain rfl : j = s.size := by omega
      rw [List.take_of_length_le (by omega), List.drop_eq_nil_of_le (by omega), List.append_nil] at hB5
      go_wp2_with fail
      refine (cA wy hk5.good).mono ?_
      rintro e w11 ⟨rfl, hb11⟩
      have hkc11 := hk5.step hb11
      have hB6 := hB5.below hb11 hB5.lt
      have hst := (hB6.below ((Below.refl _ _).alloc (Nat.le_refl _) (.cells #[.int .i64 k, .string hl, .int .i64 hn, .int .i64 z0, .int .i64 z1, .int .i64 z2, .int .i64 z3, .int .i64 z4, .int .i64 z5, .int .i64 z6, .int .i64 z7] 24)) hB6.lt).str (P := Tryd.prog) (src := 32) (dst := 9) Tryd.underlying32 Tryd.underlying5 Tryd.underlying9 (n := s.size) (cap := cap) (by rw [List.length_map]; exact hlen)
      have rA1 := heap_alloc_new w11 (.cells #[.int .i64 k, .string hl, .int .i64 hn, .int .i64 z0, .int .i64 z1, .int .i64 z2, .int .i64 z3, .int .i64 z4, .int .i64 z5, .int .i64 z6, .int .i64 z7] 24)
      have hka1 := hkc11.alloc (.cells #[.int .i64 k, .string hl, .int .i64 hn, .int .i64 z0, .int .i64 z1, .int .i64 z2, .int .i64 z3, .int .i64 z4, .int .i64 z5, .int .i64 z6, .int .i64 z7] 24)
      go_wp2_with fail
      refine (cB (w11.alloc (.cells #[.int .i64 k, .string hl, .int .i64 hn, .int .i64 z0, .int .i64 z1, .int .i64 z2, .int .i64 z3, .int .i64 z4, .int .i64 z5, .int .i64 z6, .int .i64 z7] 24)) hka1.good).mono ?_
      rintro e w12 ⟨rfl, hb12⟩
      have hkc12 := hka1.step hb12
      have rA2 := block_below rA1 hb12 (lt_of_block rA1)
      have rAa3 := block_alloc rA2 (.cells #[.int .i64 k, .string hl, .int .i64 hn, .int .i64 z0, .int .i64 z1, .int .i64 z2, .int .i64 z3, .int .i64 z4, .int .i64 z5, .int .i64 z6, .int .i64 z7] 24)
      have rB3 := heap_alloc_new w12 (.cells #[.int .i64 k, .string hl, .int .i64 hn, .int .i64 z0, .int .i64 z1, .int .i64 z2, .int .i64 z3, .int .i64 z4, .int .i64 z5, .int .i64 z6, .int .i64 z7] 24)
      have hka3 := hkc12.alloc (.cells #[.int .i64 k, .string hl, .int .i64 hn, .int .i64 z0, .int .i64 z1, .int .i64 z2, .int .i64 z3, .int .i64 z4, .int .i64 z5, .int .i64 z6, .int .i64 z7] 24)
      obtain ⟨cA0, cA1, cA2, cA3, cA4, cA5, cA6, cA7, cA8, cA9, cA10⟩ := host_cells rAa3
      obtain ⟨cB0, cB1, cB2, cB3, cB4, cB5, cB6, cB7, cB8, cB9, cB10⟩ := host_cells rB3
      have hone := str_one c (heap_alloc_new (w12.alloc (.cells #[.int .i64 k, .string hl, .int .i64 hn, .int .i64 z0, .int .i64 z1, .int .i64 z2, .int .i64 z3, .int .i64 z4, .int .i64 z5, .int .i64 z6, .int .i64 z7] 24)) (.cells #[.int .u8 c.toNat] 5)) Tryd.underlying32 Tryd.underlying5 Tryd.underlying9
      rw [World.size_alloc] at hone
      have rAa4 := block_alloc rAa3 (.cells #[.int .u8 c.toNat] 5)
      have rBa4 := block_alloc rB3 (.cells #[.int .u8 c.toNat] 5)
      have rO4 := heap_alloc_new (w12.alloc (.cells #[.int .i64 k, .string hl, .int .i64 hn, .int .i64 z0, .int .i64 z1, .int .i64 z2, .int .i64 z3, .int .i64 z4, .int .i64 z5, .int .i64 z6, .int .i64 z7] 24)) (.cells #[.int .u8 c.toNat] 5)
      have hka4 := hka3.alloc (.cells #[.int .u8 c.toNat] 5)
      go_wp2_with fail
      refine (cC ((w12.alloc (.cells #[.int .i64 k, .string hl, .int .i64 hn, .int .i64 z0, .int .i64 z1, .int .i64 z2, .int .i64 z3, .int .i64 z4, .int .i64 z5, .int .i64 z6, .int .i64 z7] 24)).alloc (.cells #[.int .u8 c.toNat] 5)) hka4.good).mono ?_
      rintro e w13 ⟨rfl, hb13⟩
      have hkc13 := hka4.step hb13
      clear cA0 cA1 cA2 cA3 cA4 cA5 cA6 cA7 cA8 cA9 cA10 cB0 cB1 cB2 cB3 cB4 cB5 cB6 cB7 cB8 cB9 cB10
      have rA5 := block_below rAa4 hb13 (lt_of_block rAa4)
      have rB6 := block_below rBa4 hb13 (lt_of_block rBa4)
      have rAa7 := block_alloc rA5 (.cells #[.int .i64 k2, .string hl2, .int .i64 hn2, .int .i64 v0, .int .i64 v1, .int .i64 v2, .int .i64 v3, .int .i64 v4, .int .i64 v5, .int .i64 v6, .int .i64 v7] 24)
      have rBa7 := block_alloc rB6 (.cells #[.int .i64 k2, .string hl2, .int .i64 hn2, .int .i64 v0, .int .i64 v1, .int .i64 v2, .int .i64 v3, .int .i64 v4, .int .i64 v5, .int .i64 v6, .int .i64 v7] 24)
      have rC7 := heap_alloc_new w13 (.cells #[.int .i64 k2, .string hl2, .int .i64 hn2, .int .i64 v0, .int .i64 v1, .int .i64 v2, .int .i64 v3, .int .i64 v4, .int .i64 v5, .int .i64 v6, .int .i64 v7] 24)
      have hka7 := hkc13.alloc (.cells #[.int .i64 k2, .string hl2, .int .i64 hn2, .int .i64 v0, .int .i64 v1, .int .i64 v2, .int .i64 v3, .int .i64 v4, .int .i64 v5, .int .i64 v6, .int .i64 v7] 24)
      obtain ⟨cA0, cA1, cA2, cA3, cA4, cA5, cA6, cA7, cA8, cA9, cA10⟩ := host_cells rAa7
      obtain ⟨cB0, cB1, cB2, cB3, cB4, cB5, cB6, cB7, cB8, cB9, cB10⟩ := host_cells rBa7
      obtain ⟨cC0, cC1, cC2, cC3, cC4, cC5, cC6, cC7, cC8, cC9, cC10⟩ := host_cells rC7
      go_wp2
      go_ret
      exact ⟨rfl, hka7.below⟩

end Go.Proofs.YtcpjonglfnakpaaDoor
