/- The law SixTells, walked over the contracts. -/
import Derived.Test.YtcpnfokpgiigcaaDoorLaw6
import Derived.Test.YtcpnfokpgiigcaaDoorCard8
import Derived.Deep.RegionHeld3
namespace Go.Proofs.YtcpnfokpgiigcaaDoor
open Go.RowKit Go.Proofs.YtcpnfokpgiigcaaDoorW.PrintWords

set_option maxHeartbeats 4000000 in
set_option maxRecDepth 100000 in
theorem law_SixTells (p : List Int) (s : ByteArray) (h8 : p.length = 8) (_hw : ∀ x ∈ p, (Lit.int .i64 x).wf = true) (hs : s.size ≤ 140737488351232) (w : World) (hG : Good w) :
    Calls Tryd.prog 8 #[.agg (ints p).toArray, .string s] w fun e w' => e = .returned (.bool true) ∧ Below w.heap.size w w' := by
  obtain ⟨x0, x1, x2, x3, x4, x5, x6, x7, rfl⟩ := list8 p h8
  obtain ⟨a, ha⟩ : ∃ a : List Int, casts (parseSix s.data.toList).1 = a := ⟨_, rfl⟩
  have a8 : a.length = 8 := by rw [← ha, casts_length, parseSix_len]
  obtain ⟨y0, y1, y2, y3, y4, y5, y6, y7, rfl⟩ := list8 a a8
  obtain ⟨is, his⟩ : ∃ is : Bool, (parseSix s.data.toList).2 = is := ⟨_, rfl⟩
  have hk0 : Ok w (w.alloc (.cells (ints [x0, x1, x2, x3, x4, x5, x6, x7]).toArray 33)) := (Ok.refl hG).alloc _
  have hp0 := IntRow.new w 33 [x0, x1, x2, x3, x4, x5, x6, x7]
  by_cases hl : s.size ≤ 300
  · have cA := fun {w : World} (hG : Good w) => oParse6 (Ok.refl hG) s (by omega)
    have cB := fun {w : World} (hG : Good w) => orParse6 (Ok.refl hG) s (by omega)
    simp only [ha, his] at cA cB
    clear ha his
    go_enter Tryd.func8, Tryd.ntmps8
    have rP0 := hp0
    go_wp2_with fail
    refine (awake6 (Ok.refl hk0.good)).mono ?_
    rintro e w1 ⟨rfl, hm1⟩
    have hk1 := hk0.step hm1.below
    have rP1 := rP0.below hm1.below rP0.lt
    clear rP0
    clear hm1
    go_wp2_with fail
    refine (cA hk1.good).mono ?_
    rintro e w2 ⟨rfl, hm2⟩
    have hk2 := hk1.step hm2.below
    have rP2 := rP1.below hm2.below rP1.lt
    clear rP1
    clear hm2
    have hp2 := IntRow.new w2 33 zer
    have hb2 := below_setRow ((Below.refl w2.heap.size w2).alloc (Nat.le_refl _) (.cells (ints zer).toArray 33)) (Nat.le_refl _) (ints [y0, y1, y2, y3, y4, y5, y6, y7]).toArray
    have hn2 := hp2.put [y0, y1, y2, y3, y4, y5, y6, y7]
    have hk3 := hk2.step hb2
    have rP3 := rP2.below hb2 rP2.lt
    clear rP2
    have rA3 := hn2
    go_wp2_with (first
        | (refine wpList_store_row rfl 33 _ _ rfl w2.heap.size (ints [y0, y1, y2, y3, y4, y5, y6, y7]).toArray (by rfl) (by rfl) 33 (ints zer).toArray hp2 (sz8 rfl) (by rw [List.size_toArray, ints_length, List.size_toArray, ints_length]; rfl) (ints_one _) ?_))
    refine (cB hk3.good).mono ?_
    rintro e w4 ⟨rfl, hm4⟩
    have hk4 := hk3.step hm4.below
    have rP4 := rP3.below hm4.below rP3.lt
    have rA4 := rA3.below hm4.below rA3.lt
    clear rP3 rA3
    clear hm4
    have hp4 := IntRow.new w4 33 zer
    have hb4 := below_setRow ((Below.refl w4.heap.size w4).alloc (Nat.le_refl _) (.cells (ints zer).toArray 33)) (Nat.le_refl _) (ints [y0, y1, y2, y3, y4, y5, y6, y7]).toArray
    have hn4 := hp4.put [y0, y1, y2, y3, y4, y5, y6, y7]
    have hk5 := hk4.step hb4
    have rP5 := rP4.below hb4 rP4.lt
    have rA5 := rA4.below hb4 rA4.lt
    clear rP4 rA4
    have rB5 := hn4
    go_wp2_with (first
        | (refine wpList_store_row rfl 33 _ _ rfl w4.heap.size (ints [y0, y1, y2, y3, y4, y5, y6, y7]).toArray (by rfl) (by rfl) 33 (ints zer).toArray hp4 (sz8 rfl) (by rw [List.size_toArray, ints_length, List.size_toArray, ints_length]; rfl) (ints_one _) ?_)
        | (refine wpList_load_row rfl 33 _ rfl _ rfl 33 (ints [x0, x1, x2, x3, x4, x5, x6, x7]).toArray (0, 0) _ rP5 Tryd.underlying33 rfl (sz8 rfl) ?_)
        | (refine wpList_load_row rfl 33 _ rfl _ rfl 33 (ints [y0, y1, y2, y3, y4, y5, y6, y7]).toArray (0, 0) _ rA5 Tryd.underlying33 rfl (sz8 rfl) ?_)
        | (refine wpList_load_row rfl 33 _ rfl _ rfl 33 (ints [y0, y1, y2, y3, y4, y5, y6, y7]).toArray (0, 0) _ rB5 Tryd.underlying33 rfl (sz8 rfl) ?_))
    refine (oRun6 (Ok.refl hk5.good) [x0, x1, x2, x3, x4, x5, x6, x7] rfl).mono ?_
    rintro e w6 ⟨rfl, hm6⟩
    have hk6 := hk5.step hm6.below
    have rP6 := rP5.below hm6.below rP5.lt
    have rA6 := rA5.below hm6.below rA5.lt
    have rB6 := rB5.below hm6.below rB5.lt
    clear rP5 rA5 rB5
    clear hm6
    go_wp2_with (first
        | (refine wpList_load_row rfl 33 _ rfl _ rfl 33 (ints [x0, x1, x2, x3, x4, x5, x6, x7]).toArray (0, 0) _ rP6 Tryd.underlying33 rfl (sz8 rfl) ?_)
        | (refine wpList_load_row rfl 33 _ rfl _ rfl 33 (ints [y0, y1, y2, y3, y4, y5, y6, y7]).toArray (0, 0) _ rA6 Tryd.underlying33 rfl (sz8 rfl) ?_)
        | (refine wpList_load_row rfl 33 _ rfl _ rfl 33 (ints [y0, y1, y2, y3, y4, y5, y6, y7]).toArray (0, 0) _ rB6 Tryd.underlying33 rfl (sz8 rfl) ?_))
    refine (orRun6 (Ok.refl hk6.good) [x0, x1, x2, x3, x4, x5, x6, x7] rfl).mono ?_
    rintro e w7 ⟨rfl, hm7⟩
    have hk7 := hk6.step hm7.below
    have rP7 := rP6.below hm7.below rP6.lt
    have rA7 := rA6.below hm7.below rA6.lt
    have rB7 := rB6.below hm7.below rB6.lt
    clear rP6 rA6 rB6
    clear hm7
    go_wp2_with (first
        | (refine wpList_load_row rfl 33 _ rfl _ rfl 33 (ints [x0, x1, x2, x3, x4, x5, x6, x7]).toArray (0, 0) _ rP7 Tryd.underlying33 rfl (sz8 rfl) ?_)
        | (refine wpList_load_row rfl 33 _ rfl _ rfl 33 (ints [y0, y1, y2, y3, y4, y5, y6, y7]).toArray (0, 0) _ rA7 Tryd.underlying33 rfl (sz8 rfl) ?_)
        | (refine wpList_load_row rfl 33 _ rfl _ rfl 33 (ints [y0, y1, y2, y3, y4, y5, y6, y7]).toArray (0, 0) _ rB7 Tryd.underlying33 rfl (sz8 rfl) ?_))
    refine (orMay6 (Ok.refl hk7.good) [x0, x1, x2, x3, x4, x5, x6, x7] rfl).mono ?_
    rintro e w8 ⟨rfl, hm8⟩
    have hk8 := hk7.step hm8.below
    have rP8 := rP7.below hm8.below rP7.lt
    have rA8 := rA7.below hm8.below rA7.lt
    have rB8 := rB7.below hm8.below rB7.lt
    clear rP7 rA7 rB7
    clear hm8
    have heq : ∀ w : World, (Op.equalIn 10000 33 (.agg #[.int .i64 y0, .int .i64 y1, .int .i64 y2, .int .i64 y3, .int .i64 y4, .int .i64 y5, .int .i64 y6, .int .i64 y7]) (.agg #[.int .i64 y0, .int .i64 y1, .int .i64 y2, .int .i64 y3, .int .i64 y4, .int .i64 y5, .int .i64 y6, .int .i64 y7])).run Tryd.prog w = .ok true w := fun w => (eq8 (p := [y0, y1, y2, y3, y4, y5, y6, y7]) (q := [y0, y1, y2, y3, y4, y5, y6, y7]) rfl rfl w).trans (by rw [beq_self_eq_true])
    have hfin : ∀ w', Ok w8 w' → Below w.heap.size w w' := fun w' h => (hk8.step h.below).below
    clear cA cB hl hs
    go_wp2_with fail
    have hmk : ∀ w', Ok w8 w' → Ok w8 w' ∧ w'.cell? ⟨w.heap.size, 0, none⟩ = some (.int .i64 x0) ∧ w'.cell? ⟨w.heap.size, 1, none⟩ = some (.int .i64 x1) ∧ w'.cell? ⟨w.heap.size, 2, none⟩ = some (.int .i64 x2) ∧ w'.cell? ⟨w.heap.size, 3, none⟩ = some (.int .i64 x3) ∧ w'.cell? ⟨w.heap.size, 4, none⟩ = some (.int .i64 x4) ∧ w'.cell? ⟨w.heap.size, 5, none⟩ = some (.int .i64 x5) ∧ w'.cell? ⟨w.heap.size, 6, none⟩ = some (.int .i64 x6) ∧ w'.cell? ⟨w.heap.size, 7, none⟩ = some (.int .i64 x7) ∧ w'.cell? ⟨w2.heap.size, 0, none⟩ = some (.int .i64 y0) ∧ w'.cell? ⟨w2.heap.size, 1, none⟩ = some (.int .i64 y1) ∧ w'.cell? ⟨w2.heap.size, 2, none⟩ = some (.int .i64 y2) ∧ w'.cell? ⟨w2.heap.size, 3, none⟩ = some (.int .i64 y3) ∧ w'.cell? ⟨w2.heap.size, 4, none⟩ = some (.int .i64 y4) ∧ w'.cell? ⟨w2.heap.size, 5, none⟩ = some (.int .i64 y5) ∧ w'.cell? ⟨w2.heap.size, 6, none⟩ = some (.int .i64 y6) ∧ w'.cell? ⟨w2.heap.size, 7, none⟩ = some (.int .i64 y7) ∧ w'.cell? ⟨w4.heap.size, 0, none⟩ = some (.int .i64 y0) ∧ w'.cell? ⟨w4.heap.size, 1, none⟩ = some (.int .i64 y1) ∧ w'.cell? ⟨w4.heap.size, 2, none⟩ = some (.int .i64 y2) ∧ w'.cell? ⟨w4.heap.size, 3, none⟩ = some (.int .i64 y3) ∧ w'.cell? ⟨w4.heap.size, 4, none⟩ = some (.int .i64 y4) ∧ w'.cell? ⟨w4.heap.size, 5, none⟩ = some (.int .i64 y5) ∧ w'.cell? ⟨w4.heap.size, 6, none⟩ = some (.int .i64 y6) ∧ w'.cell? ⟨w4.heap.size, 7, none⟩ = some (.int .i64 y7) := by
      intro w' h
      obtain ⟨cP0, cP1, cP2, cP3, cP4, cP5, cP6, cP7⟩ := (rP8.below h.below rP8.lt).eight
      obtain ⟨cA0, cA1, cA2, cA3, cA4, cA5, cA6, cA7⟩ := (rA8.below h.below rA8.lt).eight
      obtain ⟨cB0, cB1, cB2, cB3, cB4, cB5, cB6, cB7⟩ := (rB8.below h.below rB8.lt).eight
      exact ⟨h, cP0, cP1, cP2, cP3, cP4, cP5, cP6, cP7, cA0, cA1, cA2, cA3, cA4, cA5, cA6, cA7, cB0, cB1, cB2, cB3, cB4, cB5, cB6, cB7⟩
    have hkd := (Ok.refl hk8.good).drew
    go_region_held3 (fun w' => Ok w8 w' ∧ w'.cell? ⟨w.heap.size, 0, none⟩ = some (.int .i64 x0) ∧ w'.cell? ⟨w.heap.size, 1, none⟩ = some (.int .i64 x1) ∧ w'.cell? ⟨w.heap.size, 2, none⟩ = some (.int .i64 x2) ∧ w'.cell? ⟨w.heap.size, 3, none⟩ = some (.int .i64 x3) ∧ w'.cell? ⟨w.heap.size, 4, none⟩ = some (.int .i64 x4) ∧ w'.cell? ⟨w.heap.size, 5, none⟩ = some (.int .i64 x5) ∧ w'.cell? ⟨w.heap.size, 6, none⟩ = some (.int .i64 x6) ∧ w'.cell? ⟨w.heap.size, 7, none⟩ = some (.int .i64 x7) ∧ w'.cell? ⟨w2.heap.size, 0, none⟩ = some (.int .i64 y0) ∧ w'.cell? ⟨w2.heap.size, 1, none⟩ = some (.int .i64 y1) ∧ w'.cell? ⟨w2.heap.size, 2, none⟩ = some (.int .i64 y2) ∧ w'.cell? ⟨w2.heap.size, 3, none⟩ = some (.int .i64 y3) ∧ w'.cell? ⟨w2.heap.size, 4, none⟩ = some (.int .i64 y4) ∧ w'.cell? ⟨w2.heap.size, 5, none⟩ = some (.int .i64 y5) ∧ w'.cell? ⟨w2.heap.size, 6, none⟩ = some (.int .i64 y6) ∧ w'.cell? ⟨w2.heap.size, 7, none⟩ = some (.int .i64 y7) ∧ w'.cell? ⟨w4.heap.size, 0, none⟩ = some (.int .i64 y0) ∧ w'.cell? ⟨w4.heap.size, 1, none⟩ = some (.int .i64 y1) ∧ w'.cell? ⟨w4.heap.size, 2, none⟩ = some (.int .i64 y2) ∧ w'.cell? ⟨w4.heap.size, 3, none⟩ = some (.int .i64 y3) ∧ w'.cell? ⟨w4.heap.size, 4, none⟩ = some (.int .i64 y4) ∧ w'.cell? ⟨w4.heap.size, 5, none⟩ = some (.int .i64 y5) ∧ w'.cell? ⟨w4.heap.size, 6, none⟩ = some (.int .i64 y6) ∧ w'.cell? ⟨w4.heap.size, 7, none⟩ = some (.int .i64 y7)) (exact hmk _ (by assumption)) (first
      | (go_simp; go_at_call 31; refine (oMay6 (w0 := w8) ?_ [x0, x1, x2, x3, x4, x5, x6, x7] rfl).mono ?_; (exact And.left (by assumption)); rintro e wm ⟨rfl, hmm⟩)
      | (go_simp; go_at_call 32; refine (oShow6 (w0 := w8) ?_ [x0, x1, x2, x3, x4, x5, x6, x7] rfl).mono ?_; (exact And.left (by assumption)); rintro e wm ⟨rfl, hmm⟩)
      | (go_simp; go_at_call 33; refine (orShow6 (w0 := w8) ?_ [x0, x1, x2, x3, x4, x5, x6, x7] rfl).mono ?_; (exact And.left (by assumption)); rintro e wm ⟨rfl, hmm⟩))
    all_goals (go_wp2; go_ret; exact ⟨rfl, hfin _ (And.left (by assumption))⟩)
  · go_enter Tryd.func8, Tryd.ntmps8
    go_wp2_with fail
    refine (awake6 (Ok.refl hk0.good)).mono ?_
    rintro e w1 ⟨rfl, hm1⟩
    go_wp2
    go_ret
    exact ⟨rfl, (hk0.step hm1.below).below⟩

end Go.Proofs.YtcpnfokpgiigcaaDoor
