/- The law SixMay, walked over the contracts. -/
import Derived.Test.YtcpnfokpgiigcaaDoorLaw6
import Derived.Test.YtcpnfokpgiigcaaDoorSixC
namespace Go.Proofs.YtcpnfokpgiigcaaDoor
open Go.RowKit Go.Proofs.YtcpnfokpgiigcaaDoorW.PrintWords

theorem mayB_snoc {p : List Int} {n : Nat} {x : Int} (hx : p[n]? = some x) : mayB (p.take (n + 1)) = (mayB (p.take n) && decide (0 ≤ x ∧ x ≤ 65535)) := by
  unfold mayB; rw [List.take_add_one, hx, List.all_append]; simp
theorem mayB_set {p : List Int} {j : Nat} (hj : j < p.length) : mayB (p.set j 65536) = false := by
  unfold mayB; rw [List.all_eq_false]; exact ⟨65536, List.mem_iff_getElem?.2 ⟨j, by simp [hj]⟩, by decide⟩

set_option maxHeartbeats 4000000 in
set_option maxRecDepth 100000 in
theorem sixMay_yes (p : List Int) (i : Int) (h8 : p.length = 8) (hm : mayB p = true) (hi : (Lit.int .i64 i).wf = true) (w : World) (hG : Good w) : Calls Tryd.prog 13 #[.agg (ints p).toArray, .int .i64 i] w fun e w' => e = .returned (.bool true) ∧ Below w.heap.size w w' := by
  have hk0 : Ok w (w.alloc (.cells (ints p).toArray 33)) := (Ok.refl hG).alloc _
  have hp0 := IntRow.new w 33 p
  have cM := fun {w : World} (hG : Good w) => oMay6 (Ok.refl hG) p h8
  rw [hm] at cM
  have cS := fun {w : World} (hG : Good w) => oShow6 (Ok.refl hG) p h8
  have hne : showSix p ≠ [] := showSix_ne h8 hm
  have hte : (showSix p).isEmpty = false := by simpa using hne
  have hm8 : mayB (p.take 8) = true := by rw [List.take_of_length_le (by omega)]; exact hm
  generalize showSix p = t at *
  clear hm
  go_enter Tryd.func13, Tryd.ntmps13
  have rP0 := hp0
  go_wp2_with fail
  refine (awake6 (Ok.refl hk0.good)).mono ?_
  rintro e w1 ⟨rfl, hm1⟩
  have hk1 := hk0.step hm1.below
  have rP1 := rP0.below hm1.below rP0.lt
  clear rP0
  clear hm1
  go_wp2_with fail
  go_loopw [6, 7] (fun m k wr => ∃ n : Nat, n ≤ 8 ∧ k = .int .i64 n ∧ m = .bool (mayB (p.take n)) ∧ IntRow wr w.heap.size 33 p ∧ Ok w wr) (fun _ k _ => 8 - (intOf k).toNat)
  case atStart => exact ⟨0, by omega, rfl, rfl, rP1, hk1⟩
  case round =>
    obtain ⟨w2, rfl⟩ : ∃ w2, w2 = wr := ⟨_, rfl⟩
    obtain ⟨n, hn, rfl, rfl, rP2, hk2⟩ := hrel
    clear rP1 hk1
    by_cases hn8 : n < 8
    · obtain ⟨x, hx⟩ : ∃ x, p[n]? = some x := ⟨_, List.getElem?_eq_getElem (by omega)⟩
      have hc := rP2.cell hx
      have hs := mayB_snoc hx
      have HS := Lib.hid hs
      clear hs hx hm8 cM cS
      cases hmb : mayB (p.take n) with
      | false =>
        rw [hmb] at HS
        go_wp2
        refine ⟨⟨n + 1, by omega, by go_num, by rw [HS.out]; rfl, rP2, hk2⟩, by simp [intOf]; omega⟩
      | true =>
        rw [hmb] at HS
        by_cases h0 : 0 ≤ x
        · by_cases h1 : x ≤ 65535
          · go_wp2
            refine ⟨⟨n + 1, by omega, by go_num, by rw [HS.out]; simp [h0, h1], rP2, hk2⟩, by simp [intOf]; omega⟩
          · go_wp2
            refine ⟨⟨n + 1, by omega, by go_num, by rw [HS.out]; simp [h1], rP2, hk2⟩, by simp [intOf]; omega⟩
        · go_wp2
          refine ⟨⟨n + 1, by omega, by go_num, by rw [HS.out]; simp [h0], rP2, hk2⟩, by simp [intOf]; omega⟩
    · obtain rfl : n = 8 := by omega
      rw [hm8]
      clear hm8
      by_cases hin : i < 0 ∨ 7 < i
      · have hin1 : (decide (i < 0) || decide (7 < i)) = true := by simpa using hin
        by_cases hneg : i < 0
        · go_wp2_with (first
              | (refine wpList_load_row_g (by rfl) 33 _ rfl _ rfl 33 (ints p).toArray (0, 0) _ rP2 Tryd.underlying33 rfl (sz8 h8) ?_))
          refine (cM hk2.good).mono ?_
          rintro e w3 ⟨rfl, hm3⟩
          have hk3 := hk2.step hm3.below
          have rP3 := rP2.below hm3.below rP2.lt
          clear rP2
          clear hm3
          go_wp2_with fail
          go_ret
          exact ⟨rfl, hk3.below⟩
        · have hgt : 7 < i := by omega
          go_wp2_with (first
              | (refine wpList_load_row_g (by rfl) 33 _ rfl _ rfl 33 (ints p).toArray (0, 0) _ rP2 Tryd.underlying33 rfl (sz8 h8) ?_))
          refine (cM hk2.good).mono ?_
          rintro e w3 ⟨rfl, hm3⟩
          have hk3 := hk2.step hm3.below
          have rP3 := rP2.below hm3.below rP2.lt
          clear rP2
          clear hm3
          go_wp2_with fail
          go_ret
          exact ⟨rfl, hk3.below⟩
      · obtain ⟨j, rfl⟩ : ∃ j : Nat, i = (j : Int) := ⟨i.toNat, by omega⟩
        have hj : j < 8 := by omega
        have hmq := mayB_set (p := p) (j := j) (by omega)
        have hq8 : (p.set j 65536).length = 8 := by rw [List.length_set]; exact h8
        have cQ := fun {w : World} (hG : Good w) => oMay6 (Ok.refl hG) (p.set j 65536) hq8
        rw [hmq] at cQ
        have cQS := fun {w : World} (hG : Good w) => oShow6 (Ok.refl hG) (p.set j 65536) hq8
        rw [showSix_no hmq] at cQS
        clear hmq hin hi
        obtain ⟨x, hx⟩ : ∃ x, p[j]? = some x := ⟨_, List.getElem?_eq_getElem (by omega)⟩
        have rP2k := rP2
        have hp2 := IntRow.new w2 33 zer
        have hb2 := below_setRow ((Below.refl w2.heap.size w2).alloc (Nat.le_refl _) (.cells (ints zer).toArray 33)) (Nat.le_refl _) (ints p).toArray
        have hn2 := hp2.put p
        have hk3 := hk2.step hb2
        have rP3 := rP2.below hb2 rP2.lt
        clear rP2
        have rQ3 := hn2
        have hcx : ((w2.alloc (.cells #[.int .i64 0, .int .i64 0, .int .i64 0, .int .i64 0, .int .i64 0, .int .i64 0, .int .i64 0, .int .i64 0] 33)).setRow w2.heap.size (ints p).toArray).cell? ⟨w2.heap.size, j, none⟩ = some (.int .i64 x) := rQ3.cell hx
        have hfx : ((w2.alloc (.cells #[.int .i64 0, .int .i64 0, .int .i64 0, .int .i64 0, .int .i64 0, .int .i64 0, .int .i64 0, .int .i64 0] 33)).setRow w2.heap.size (ints p).toArray).frozen? ⟨w2.heap.size, j, none⟩ = false := rQ3.free j
        clear hx
        have rQ4 := rQ3.set j 65536
        have hb4 : Below w2.heap.size w2 (((w2.alloc (.cells (ints zer).toArray 33)).setRow w2.heap.size (ints p).toArray).setCell ⟨w2.heap.size, j, none⟩ (.int .i64 65536)) := hb2.grown (grown_setCell _ _ _) hb2.size (fun k hk => by cases hk; simp)
        have rP4 := rP2k.below hb4 rP2k.lt
        have hk4 := hk2.step hb4
        clear rQ3 rP3
        go_wp2_with (first
            | (refine wpList_load_row rfl 33 _ rfl _ rfl 33 (ints p).toArray (0, 0) _ rP2k Tryd.underlying33 rfl (sz8 h8) ?_)
            | (refine wpList_store_row rfl 33 _ _ rfl w2.heap.size (ints p).toArray (by rfl) (by rfl) 33 (ints zer).toArray hp2 (sz8 h8) (old8 h8) (ints_one _) ?_)
            | (refine wpList_load_row_g (by rfl) 33 _ rfl _ rfl 33 (ints p).toArray (0, 0) _ rP4 Tryd.underlying33 rfl (sz8 h8) ?_)
            | (refine wpList_load_row_g (by rfl) 33 _ rfl _ rfl 33 (ints (p.set j 65536)).toArray (0, 0) _ rQ4 Tryd.underlying33 rfl (sz8 (by rw [List.length_set]; exact h8)) ?_))
        refine (cM hk4.good).mono ?_
        rintro e w5 ⟨rfl, hm5⟩
        have hk5 := hk4.step hm5.below
        have rP5 := rP4.below hm5.below rP4.lt
        have rQ5 := rQ4.below hm5.below rQ4.lt
        clear rP4 rQ4
        clear hm5
        go_wp2_with (first
            | (refine wpList_load_row_g (by rfl) 33 _ rfl _ rfl 33 (ints p).toArray (0, 0) _ rP5 Tryd.underlying33 rfl (sz8 h8) ?_)
            | (refine wpList_load_row_g (by rfl) 33 _ rfl _ rfl 33 (ints (p.set j 65536)).toArray (0, 0) _ rQ5 Tryd.underlying33 rfl (sz8 (by rw [List.length_set]; exact h8)) ?_))
        refine (cQ hk5.good).mono ?_
        rintro e w6 ⟨rfl, hm6⟩
        have hk6 := hk5.step hm6.below
        have rP6 := rP5.below hm6.below rP5.lt
        have rQ6 := rQ5.below hm6.below rQ5.lt
        clear rP5 rQ5
        clear hm6
        go_wp2_with (first
            | (refine wpList_load_row_g (by rfl) 33 _ rfl _ rfl 33 (ints p).toArray (0, 0) _ rP6 Tryd.underlying33 rfl (sz8 h8) ?_)
            | (refine wpList_load_row_g (by rfl) 33 _ rfl _ rfl 33 (ints (p.set j 65536)).toArray (0, 0) _ rQ6 Tryd.underlying33 rfl (sz8 (by rw [List.length_set]; exact h8)) ?_))
        refine (cQS hk6.good).mono ?_
        rintro e w7 ⟨rfl, hm7⟩
        have hk7 := hk6.step hm7.below
        have rP7 := rP6.below hm7.below rP6.lt
        have rQ7 := rQ6.below hm7.below rQ6.lt
        clear rP6 rQ6
        clear hm7
        go_wp2_with (first
            | (refine wpList_load_row_g (by rfl) 33 _ rfl _ rfl 33 (ints p).toArray (0, 0) _ rP7 Tryd.underlying33 rfl (sz8 h8) ?_)
            | (refine wpList_load_row_g (by rfl) 33 _ rfl _ rfl 33 (ints (p.set j 65536)).toArray (0, 0) _ rQ7 Tryd.underlying33 rfl (sz8 (by rw [List.length_set]; exact h8)) ?_))
        refine (cS hk7.good).mono ?_
        rintro e w8 ⟨rfl, hm8⟩
        have hk8 := hk7.step hm8.below
        have rP8 := rP7.below hm8.below rP7.lt
        have rQ8 := rQ7.below hm8.below rQ7.lt
        clear rP7 rQ7
        clear hm8
        go_wp2_with fail
        go_ret
        exact ⟨rfl, hk8.below⟩

set_option maxHeartbeats 4000000 in
set_option maxRecDepth 100000 in
theorem sixMay_no (p : List Int) (i : Int) (h8 : p.length = 8) (hm : mayB p = false) (hi : (Lit.int .i64 i).wf = true) (w : World) (hG : Good w) : Calls Tryd.prog 13 #[.agg (ints p).toArray, .int .i64 i] w fun e w' => e = .returned (.bool true) ∧ Below w.heap.size w w' := by
  have hk0 : Ok w (w.alloc (.cells (ints p).toArray 33)) := (Ok.refl hG).alloc _
  have hp0 := IntRow.new w 33 p
  have cM := fun {w : World} (hG : Good w) => oMay6 (Ok.refl hG) p h8
  rw [hm] at cM
  have cS := fun {w : World} (hG : Good w) => oShow6 (Ok.refl hG) p h8
  rw [showSix_no hm] at cS
  have hm8 : mayB (p.take 8) = false := by rw [List.take_of_length_le (by omega)]; exact hm
  clear hm
  go_enter Tryd.func13, Tryd.ntmps13
  have rP0 := hp0
  go_wp2_with fail
  refine (awake6 (Ok.refl hk0.good)).mono ?_
  rintro e w1 ⟨rfl, hm1⟩
  have hk1 := hk0.step hm1.below
  have rP1 := rP0.below hm1.below rP0.lt
  clear rP0
  clear hm1
  go_wp2_with fail
  go_loopw [6, 7] (fun m k wr => ∃ n : Nat, n ≤ 8 ∧ k = .int .i64 n ∧ m = .bool (mayB (p.take n)) ∧ IntRow wr w.heap.size 33 p ∧ Ok w wr) (fun _ k _ => 8 - (intOf k).toNat)
  case atStart => exact ⟨0, by omega, rfl, rfl, rP1, hk1⟩
  case round =>
    obtain ⟨w2, rfl⟩ : ∃ w2, w2 = wr := ⟨_, rfl⟩
    obtain ⟨n, hn, rfl, rfl, rP2, hk2⟩ := hrel
    clear rP1 hk1
    by_cases hn8 : n < 8
    · obtain ⟨x, hx⟩ : ∃ x, p[n]? = some x := ⟨_, List.getElem?_eq_getElem (by omega)⟩
      have hc := rP2.cell hx
      have hs := mayB_snoc hx
      have HS := Lib.hid hs
      clear hs hx hm8 cM cS
      cases hmb : mayB (p.take n) with
      | false =>
        rw [hmb] at HS
        go_wp2
        refine ⟨⟨n + 1, by omega, by go_num, by rw [HS.out]; rfl, rP2, hk2⟩, by simp [intOf]; omega⟩
      | true =>
        rw [hmb] at HS
        by_cases h0 : 0 ≤ x
        · by_cases h1 : x ≤ 65535
          · go_wp2
            refine ⟨⟨n + 1, by omega, by go_num, by rw [HS.out]; simp [h0, h1], rP2, hk2⟩, by simp [intOf]; omega⟩
          · go_wp2
            refine ⟨⟨n + 1, by omega, by go_num, by rw [HS.out]; simp [h1], rP2, hk2⟩, by simp [intOf]; omega⟩
        · go_wp2
          refine ⟨⟨n + 1, by omega, by go_num, by rw [HS.out]; simp [h0], rP2, hk2⟩, by simp [intOf]; omega⟩
    · obtain rfl : n = 8 := by omega
      rw [hm8]
      clear hm8
      by_cases hin : i < 0 ∨ 7 < i
      · have hin1 : (decide (i < 0) || decide (7 < i)) = true := by simpa using hin
        by_cases hneg : i < 0
        · go_wp2_with (first
              | (refine wpList_load_row_g (by rfl) 33 _ rfl _ rfl 33 (ints p).toArray (0, 0) _ rP2 Tryd.underlying33 rfl (sz8 h8) ?_))
          refine (cM hk2.good).mono ?_
          rintro e w3 ⟨rfl, hm3⟩
          have hk3 := hk2.step hm3.below
          have rP3 := rP2.below hm3.below rP2.lt
          clear rP2
          clear hm3
          go_wp2_with fail
          go_ret
          exact ⟨rfl, hk3.below⟩
        · have hgt : 7 < i := by omega
          go_wp2_with (first
              | (refine wpList_load_row_g (by rfl) 33 _ rfl _ rfl 33 (ints p).toArray (0, 0) _ rP2 Tryd.underlying33 rfl (sz8 h8) ?_))
          refine (cM hk2.good).mono ?_
          rintro e w3 ⟨rfl, hm3⟩
          have hk3 := hk2.step hm3.below
          have rP3 := rP2.below hm3.below rP2.lt
          clear rP2
          clear hm3
          go_wp2_with fail
          go_ret
          exact ⟨rfl, hk3.below⟩
      · obtain ⟨j, rfl⟩ : ∃ j : Nat, i = (j : Int) := ⟨i.toNat, by omega⟩
        have hj : j < 8 := by omega
        have hmq := mayB_set (p := p) (j := j) (by omega)
        have hq8 : (p.set j 65536).length = 8 := by rw [List.length_set]; exact h8
        have cQ := fun {w : World} (hG : Good w) => oMay6 (Ok.refl hG) (p.set j 65536) hq8
        rw [hmq] at cQ
        have cQS := fun {w : World} (hG : Good w) => oShow6 (Ok.refl hG) (p.set j 65536) hq8
        rw [showSix_no hmq] at cQS
        clear hmq hin hi
        obtain ⟨x, hx⟩ : ∃ x, p[j]? = some x := ⟨_, List.getElem?_eq_getElem (by omega)⟩
        have rP2k := rP2
        have hp2 := IntRow.new w2 33 zer
        have hb2 := below_setRow ((Below.refl w2.heap.size w2).alloc (Nat.le_refl _) (.cells (ints zer).toArray 33)) (Nat.le_refl _) (ints p).toArray
        have hn2 := hp2.put p
        have hk3 := hk2.step hb2
        have rP3 := rP2.below hb2 rP2.lt
        clear rP2
        have rQ3 := hn2
        have hcx : ((w2.alloc (.cells #[.int .i64 0, .int .i64 0, .int .i64 0, .int .i64 0, .int .i64 0, .int .i64 0, .int .i64 0, .int .i64 0] 33)).setRow w2.heap.size (ints p).toArray).cell? ⟨w2.heap.size, j, none⟩ = some (.int .i64 x) := rQ3.cell hx
        have hfx : ((w2.alloc (.cells #[.int .i64 0, .int .i64 0, .int .i64 0, .int .i64 0, .int .i64 0, .int .i64 0, .int .i64 0, .int .i64 0] 33)).setRow w2.heap.size (ints p).toArray).frozen? ⟨w2.heap.size, j, none⟩ = false := rQ3.free j
        clear hx
        have rQ4 := rQ3.set j 65536
        have hb4 : Below w2.heap.size w2 (((w2.alloc (.cells (ints zer).toArray 33)).setRow w2.heap.size (ints p).toArray).setCell ⟨w2.heap.size, j, none⟩ (.int .i64 65536)) := hb2.grown (grown_setCell _ _ _) hb2.size (fun k hk => by cases hk; simp)
        have rP4 := rP2k.below hb4 rP2k.lt
        have hk4 := hk2.step hb4
        clear rQ3 rP3
        go_wp2_with (first
            | (refine wpList_load_row rfl 33 _ rfl _ rfl 33 (ints p).toArray (0, 0) _ rP2k Tryd.underlying33 rfl (sz8 h8) ?_)
            | (refine wpList_store_row rfl 33 _ _ rfl w2.heap.size (ints p).toArray (by rfl) (by rfl) 33 (ints zer).toArray hp2 (sz8 h8) (old8 h8) (ints_one _) ?_)
            | (refine wpList_load_row_g (by rfl) 33 _ rfl _ rfl 33 (ints p).toArray (0, 0) _ rP4 Tryd.underlying33 rfl (sz8 h8) ?_)
            | (refine wpList_load_row_g (by rfl) 33 _ rfl _ rfl 33 (ints (p.set j 65536)).toArray (0, 0) _ rQ4 Tryd.underlying33 rfl (sz8 (by rw [List.length_set]; exact h8)) ?_))
        refine (cM hk4.good).mono ?_
        rintro e w5 ⟨rfl, hm5⟩
        have hk5 := hk4.step hm5.below
        have rP5 := rP4.below hm5.below rP4.lt
        have rQ5 := rQ4.below hm5.below rQ4.lt
        clear rP4 rQ4
        clear hm5
        go_wp2_with (first
            | (refine wpList_load_row_g (by rfl) 33 _ rfl _ rfl 33 (ints p).toArray (0, 0) _ rP5 Tryd.underlying33 rfl (sz8 h8) ?_)
            | (refine wpList_load_row_g (by rfl) 33 _ rfl _ rfl 33 (ints (p.set j 65536)).toArray (0, 0) _ rQ5 Tryd.underlying33 rfl (sz8 (by rw [List.length_set]; exact h8)) ?_))
        refine (cQ hk5.good).mono ?_
        rintro e w6 ⟨rfl, hm6⟩
        have hk6 := hk5.step hm6.below
        have rP6 := rP5.below hm6.below rP5.lt
        have rQ6 := rQ5.below hm6.below rQ5.lt
        clear rP5 rQ5
        clear hm6
        go_wp2_with (first
            | (refine wpList_load_row_g (by rfl) 33 _ rfl _ rfl 33 (ints p).toArray (0, 0) _ rP6 Tryd.underlying33 rfl (sz8 h8) ?_)
            | (refine wpList_load_row_g (by rfl) 33 _ rfl _ rfl 33 (ints (p.set j 65536)).toArray (0, 0) _ rQ6 Tryd.underlying33 rfl (sz8 (by rw [List.length_set]; exact h8)) ?_))
        refine (cQS hk6.good).mono ?_
        rintro e w7 ⟨rfl, hm7⟩
        have hk7 := hk6.step hm7.below
        have rP7 := rP6.below hm7.below rP6.lt
        have rQ7 := rQ6.below hm7.below rQ6.lt
        clear rP6 rQ6
        clear hm7
        go_wp2_with (first
            | (refine wpList_load_row_g (by rfl) 33 _ rfl _ rfl 33 (ints p).toArray (0, 0) _ rP7 Tryd.underlying33 rfl (sz8 h8) ?_)
            | (refine wpList_load_row_g (by rfl) 33 _ rfl _ rfl 33 (ints (p.set j 65536)).toArray (0, 0) _ rQ7 Tryd.underlying33 rfl (sz8 (by rw [List.length_set]; exact h8)) ?_))
        refine (cS hk7.good).mono ?_
        rintro e w8 ⟨rfl, hm8⟩
        have hk8 := hk7.step hm8.below
        have rP8 := rP7.below hm8.below rP7.lt
        have rQ8 := rQ7.below hm8.below rQ7.lt
        clear rP7 rQ7
        clear hm8
        go_wp2_with fail
        go_ret
        exact ⟨rfl, hk8.below⟩

theorem law_SixMay (p : List Int) (i : Int) (h8 : p.length = 8) (_hw : ∀ x ∈ p, (Lit.int .i64 x).wf = true) (hi : (Lit.int .i64 i).wf = true) (w : World) (hG : Good w) :
    Calls Tryd.prog 13 #[.agg (ints p).toArray, .int .i64 i] w fun e w' => e = .returned (.bool true) ∧ Below w.heap.size w w' := by
  cases hm : mayB p with
  | true => exact sixMay_yes p i h8 hm hi w hG
  | false => exact sixMay_no p i h8 hm hi w hG

end Go.Proofs.YtcpnfokpgiigcaaDoor
