/- The law SixBack, walked over the contracts. -/
import Derived.Test.YtcpnfokpgiigcaaDoorLaw6
import Derived.Test.YtcpnfokpgiigcaaDoorSixC
import Derived.Test.YtcpnfokpgiigcaaDoorCard8
namespace Go.Proofs.YtcpnfokpgiigcaaDoor
open Go.RowKit Go.Proofs.YtcpnfokpgiigcaaDoorW.PrintWords

theorem parse_nil6 : parseSix [] = (no8, false) := by decide +kernel
theorem casts_toNat {p : List Int} (h : mayB p = true) : casts (p.map Int.toNat) = p := by
  unfold casts
  rw [List.map_map]
  conv => rhs; rw [← List.map_id p]
  exact List.map_congr_left fun n hn => by have := mayB_mem h n hn; show ((n.toNat : Nat) : Int) = n; omega
theorem oParse6L {w : World} (hG : Good w) (l : List UInt8) (hl : l.length ≤ 1000000) : Calls Tryd.prog 26 #[.string ⟨l.toArray⟩] w fun e w' => e = .returned (.tuple #[.agg (ints (casts (parseSix l).1)).toArray, .bool (parseSix l).2]) ∧ Ok w w' := oParse6 (Ok.refl hG) ⟨l.toArray⟩ hl
theorem casts_may {l : List UInt8} {k : List Nat} (h : parseSix l = (k, true)) : mayB (casts k) = true ∧ (showSix (casts k)).length ≤ l.length + 1 := parse_back h

set_option maxHeartbeats 4000000 in
set_option maxRecDepth 100000 in
theorem sixBack_may_can (p : List Int) (s : ByteArray) (h8 : p.length = 8) (hm : mayB p = true) (x : List Int) (hx8 : x.length = 8) (hp : ∀ {w : World} (_ : Good w), Calls Tryd.prog 26 #[.string s] w fun e w' => e = .returned (.tuple #[.agg (ints x).toArray, .bool true]) ∧ Ok w w') (y : List UInt8) (hy : showSix x = y)
    (hmx : mayB x = true) (hy1 : y ≠ []) (hy2 : y.length ≤ s.size + 1)
    (hl : s.size ≤ 300) (w : World) (hG : Good w) : Calls Tryd.prog 9 #[.agg (ints p).toArray, .string s] w fun e w' => e = .returned (.bool true) ∧ Below w.heap.size w w' := by
  obtain ⟨x0, x1, x2, x3, x4, x5, x6, x7, rfl⟩ := list8 p h8
  obtain ⟨y0, y1, y2, y3, y4, y5, y6, y7, rfl⟩ := list8 x hx8
  obtain ⟨p, hpp⟩ : ∃ p, p = [x0, x1, x2, x3, x4, x5, x6, x7] := ⟨_, rfl⟩
  obtain ⟨x, hxx⟩ : ∃ x, x = [y0, y1, y2, y3, y4, y5, y6, y7] := ⟨_, rfl⟩
  rw [← hpp] at h8 hm ⊢
  rw [← hxx] at hx8 hy hmx
  simp only [← hxx] at hp
  have HP := Lib.hid hpp
  have HX := Lib.hid hxx
  clear hpp hxx
  have hk0 : Ok w (w.alloc (.cells (ints p).toArray 33)) := (Ok.refl hG).alloc _
  have hp0 := IntRow.new w 33 p
  have cS := fun {w : World} (hG : Good w) => oShow6 (Ok.refl hG) p h8
  have cM := fun {w : World} (hG : Good w) => oMay6 (Ok.refl hG) p h8
  have cY := fun {w : World} (hG : Good w) => oShow6 (Ok.refl hG) x hx8
  rw [hy] at cY
  rw [hm] at cM
  have hne : showSix p ≠ [] := showSix_ne h8 hm
  have h39 : (showSix p).length ≤ 39 := show_39 h8 hm
  have cT := fun {w : World} (hG : Good w) => oParse6L hG (showSix p) (by omega)
  rw [parse_showSix h8 hm] at cT
  simp only [casts_toNat hm] at cT
  have hte : (showSix p).isEmpty = false := by simpa using hne
  generalize showSix p = t at *
  have hye : y.isEmpty = false := by simpa using hy1
  have hyl : (y.length : Int) ≤ s.size + 1 := by omega
  have cX := fun {w : World} (hG : Good w) => oMay6 (Ok.refl hG) x hx8
  rw [hmx] at cX
  have he : ∀ w : World, (Op.equalIn 10000 33 (.agg (ints p).toArray) (.agg (ints p).toArray)).run Tryd.prog w = .ok true w := fun w => (eq8 h8 h8 w).trans (by rw [beq_self_eq_true])
  clear hm hy
  go_enter Tryd.func9, Tryd.ntmps9
  have rP0 := hp0
  go_wp2_with fail
  refine (awake6 (Ok.refl hk0.good)).mono ?_
  rintro e w1 ⟨rfl, hm1⟩
  have hk1 := hk0.step hm1.below
  have rP1 := rP0.below hm1.below rP0.lt
  clear rP0
  clear hm1
  go_wp2_with (first
      | (refine wpList_load_row rfl 33 _ rfl _ rfl 33 (ints p).toArray (0, 0) _ rP1 Tryd.underlying33 rfl (sz8 h8) ?_))
  refine (cS hk1.good).mono ?_
  rintro e w2 ⟨rfl, hm2⟩
  have hk2 := hk1.step hm2.below
  have rP2 := rP1.below hm2.below rP1.lt
  clear rP1
  clear hm2
  go_wp2_with fail
  refine (cT hk2.good).mono ?_
  rintro e w3 ⟨rfl, hm3⟩
  have hk3 := hk2.step hm3.below
  have rP3 := rP2.below hm3.below rP2.lt
  clear rP2
  clear hm3
  have hp3 := IntRow.new w3 33 zer
  have hb3 := below_setRow ((Below.refl w3.heap.size w3).alloc (Nat.le_refl _) (.cells (ints zer).toArray 33)) (Nat.le_refl _) (ints p).toArray
  have hn3 := hp3.put p
  have hk4 := hk3.step hb3
  have rP4 := rP3.below hb3 rP3.lt
  clear rP3
  have rQ4 := hn3
  go_wp2_with (first
      | (refine wpList_store_row rfl 33 _ _ rfl w3.heap.size (ints p).toArray (by rfl) (by rfl) 33 (ints zer).toArray hp3 (sz8 h8) (old8 h8) (ints_one _) ?_)
      | (refine wpList_load_row rfl 33 _ rfl _ rfl 33 (ints p).toArray (0, 0) _ rP4 Tryd.underlying33 rfl (sz8 h8) ?_)
      | (refine wpList_load_row rfl 33 _ rfl _ rfl 33 (ints p).toArray (0, 0) _ rQ4 Tryd.underlying33 rfl (sz8 h8) ?_))
  refine (cM hk4.good).mono ?_
  rintro e w5 ⟨rfl, hm5⟩
  have hk5 := hk4.step hm5.below
  have rP5 := rP4.below hm5.below rP4.lt
  have rQ5 := rQ4.below hm5.below rQ4.lt
  clear rP4 rQ4
  clear hm5
  go_wp2_with fail
  refine (hp hk5.good).mono ?_
  rintro e w6 ⟨rfl, hm6⟩
  have hk6 := hk5.step hm6.below
  have rP6 := rP5.below hm6.below rP5.lt
  have rQ6 := rQ5.below hm6.below rQ5.lt
  clear rP5 rQ5
  clear hm6
  have hp6 := IntRow.new w6 33 zer
  have hb6 := below_setRow ((Below.refl w6.heap.size w6).alloc (Nat.le_refl _) (.cells (ints zer).toArray 33)) (Nat.le_refl _) (ints x).toArray
  have hn6 := hp6.put x
  have hk7 := hk6.step hb6
  have rP7 := rP6.below hb6 rP6.lt
  have rQ7 := rQ6.below hb6 rQ6.lt
  clear rP6 rQ6
  have rX7 := hn6
  go_wp2_with (first
      | (refine wpList_store_row rfl 33 _ _ rfl w6.heap.size (ints x).toArray (by rfl) (by rfl) 33 (ints zer).toArray hp6 (sz8 hx8) (old8 hx8) (ints_one _) ?_)
      | (refine wpList_load_row rfl 33 _ rfl _ rfl 33 (ints p).toArray (0, 0) _ rP7 Tryd.underlying33 rfl (sz8 h8) ?_)
      | (refine wpList_load_row rfl 33 _ rfl _ rfl 33 (ints p).toArray (0, 0) _ rQ7 Tryd.underlying33 rfl (sz8 h8) ?_)
      | (refine wpList_load_row rfl 33 _ rfl _ rfl 33 (ints x).toArray (0, 0) _ rX7 Tryd.underlying33 rfl (sz8 hx8) ?_))
  refine (cY hk7.good).mono ?_
  rintro e w8 ⟨rfl, hm8⟩
  have hk8 := hk7.step hm8.below
  have rP8 := rP7.below hm8.below rP7.lt
  have rQ8 := rQ7.below hm8.below rQ7.lt
  have rX8 := rX7.below hm8.below rX7.lt
  clear rP7 rQ7 rX7
  clear hm8
  have hpp := HP.out
  have hxx := HX.out
  clear HP HX
  subst hpp hxx
  have cP := rP8.eight
  have cX8 := rX8.eight
  have cQ8 := rQ8.eight
  have he8 : ∀ w : World, (Op.equalIn 10000 33 (.agg #[.int .i64 x0, .int .i64 x1, .int .i64 x2, .int .i64 x3, .int .i64 x4, .int .i64 x5, .int .i64 x6, .int .i64 x7]) (.agg #[.int .i64 x0, .int .i64 x1, .int .i64 x2, .int .i64 x3, .int .i64 x4, .int .i64 x5, .int .i64 x6, .int .i64 x7])).run Tryd.prog w = .ok true w := fun w => (eq8 (p := [x0, x1, x2, x3, x4, x5, x6, x7]) (q := [x0, x1, x2, x3, x4, x5, x6, x7]) rfl rfl w).trans (by rw [beq_self_eq_true])
  clear cS cM cY cT he hp
  go_wp2_with fail
  refine (cX hk8.good).mono ?_
  rintro e w9 ⟨rfl, hm9⟩
  have hk9 := hk8.step hm9.below
  have rP9 := rP8.below hm9.below rP8.lt
  have rQ9 := rQ8.below hm9.below rQ8.lt
  have rX9 := rX8.below hm9.below rX8.lt
  clear rP8 rQ8 rX8
  clear hm9
  go_wp2_with fail
  go_ret
  exact ⟨rfl, hk9.below⟩
  
set_option maxHeartbeats 4000000 in
set_option maxRecDepth 100000 in
theorem sixBack_may_none (p : List Int) (s : ByteArray) (h8 : p.length = 8) (hm : mayB p = true) (x : List Int) (hx8 : x.length = 8) (hp : ∀ {w : World} (_ : Good w), Calls Tryd.prog 26 #[.string s] w fun e w' => e = .returned (.tuple #[.agg (ints x).toArray, .bool false]) ∧ Ok w w') (y : List UInt8) (hy : showSix x = y)
    (hl : s.size ≤ 300) (w : World) (hG : Good w) : Calls Tryd.prog 9 #[.agg (ints p).toArray, .string s] w fun e w' => e = .returned (.bool true) ∧ Below w.heap.size w w' := by
  obtain ⟨x0, x1, x2, x3, x4, x5, x6, x7, rfl⟩ := list8 p h8
  obtain ⟨y0, y1, y2, y3, y4, y5, y6, y7, rfl⟩ := list8 x hx8
  obtain ⟨p, hpp⟩ : ∃ p, p = [x0, x1, x2, x3, x4, x5, x6, x7] := ⟨_, rfl⟩
  obtain ⟨x, hxx⟩ : ∃ x, x = [y0, y1, y2, y3, y4, y5, y6, y7] := ⟨_, rfl⟩
  rw [← hpp] at h8 hm ⊢
  rw [← hxx] at hx8 hy
  simp only [← hxx] at hp
  have HP := Lib.hid hpp
  have HX := Lib.hid hxx
  clear hpp hxx
  have hk0 : Ok w (w.alloc (.cells (ints p).toArray 33)) := (Ok.refl hG).alloc _
  have hp0 := IntRow.new w 33 p
  have cS := fun {w : World} (hG : Good w) => oShow6 (Ok.refl hG) p h8
  have cM := fun {w : World} (hG : Good w) => oMay6 (Ok.refl hG) p h8
  have cY := fun {w : World} (hG : Good w) => oShow6 (Ok.refl hG) x hx8
  rw [hy] at cY
  rw [hm] at cM
  have hne : showSix p ≠ [] := showSix_ne h8 hm
  have h39 : (showSix p).length ≤ 39 := show_39 h8 hm
  have cT := fun {w : World} (hG : Good w) => oParse6L hG (showSix p) (by omega)
  rw [parse_showSix h8 hm] at cT
  simp only [casts_toNat hm] at cT
  have hte : (showSix p).isEmpty = false := by simpa using hne
  generalize showSix p = t at *
  have he : ∀ w : World, (Op.equalIn 10000 33 (.agg (ints p).toArray) (.agg (ints p).toArray)).run Tryd.prog w = .ok true w := fun w => (eq8 h8 h8 w).trans (by rw [beq_self_eq_true])
  clear hm hy
  go_enter Tryd.func9, Tryd.ntmps9
  have rP0 := hp0
  go_wp2_with fail
  refine (awake6 (Ok.refl hk0.good)).mono ?_
  rintro e w1 ⟨rfl, hm1⟩
  have hk1 := hk0.step hm1.below
  have rP1 := rP0.below hm1.below rP0.lt
  clear rP0
  clear hm1
  go_wp2_with (first
      | (refine wpList_load_row rfl 33 _ rfl _ rfl 33 (ints p).toArray (0, 0) _ rP1 Tryd.underlying33 rfl (sz8 h8) ?_))
  refine (cS hk1.good).mono ?_
  rintro e w2 ⟨rfl, hm2⟩
  have hk2 := hk1.step hm2.below
  have rP2 := rP1.below hm2.below rP1.lt
  clear rP1
  clear hm2
  go_wp2_with fail
  refine (cT hk2.good).mono ?_
  rintro e w3 ⟨rfl, hm3⟩
  have hk3 := hk2.step hm3.below
  have rP3 := rP2.below hm3.below rP2.lt
  clear rP2
  clear hm3
  have hp3 := IntRow.new w3 33 zer
  have hb3 := below_setRow ((Below.refl w3.heap.size w3).alloc (Nat.le_refl _) (.cells (ints zer).toArray 33)) (Nat.le_refl _) (ints p).toArray
  have hn3 := hp3.put p
  have hk4 := hk3.step hb3
  have rP4 := rP3.below hb3 rP3.lt
  clear rP3
  have rQ4 := hn3
  go_wp2_with (first
      | (refine wpList_store_row rfl 33 _ _ rfl w3.heap.size (ints p).toArray (by rfl) (by rfl) 33 (ints zer).toArray hp3 (sz8 h8) (old8 h8) (ints_one _) ?_)
      | (refine wpList_load_row rfl 33 _ rfl _ rfl 33 (ints p).toArray (0, 0) _ rP4 Tryd.underlying33 rfl (sz8 h8) ?_)
      | (refine wpList_load_row rfl 33 _ rfl _ rfl 33 (ints p).toArray (0, 0) _ rQ4 Tryd.underlying33 rfl (sz8 h8) ?_))
  refine (cM hk4.good).mono ?_
  rintro e w5 ⟨rfl, hm5⟩
  have hk5 := hk4.step hm5.below
  have rP5 := rP4.below hm5.below rP4.lt
  have rQ5 := rQ4.below hm5.below rQ4.lt
  clear rP4 rQ4
  clear hm5
  go_wp2_with fail
  refine (hp hk5.good).mono ?_
  rintro e w6 ⟨rfl, hm6⟩
  have hk6 := hk5.step hm6.below
  have rP6 := rP5.below hm6.below rP5.lt
  have rQ6 := rQ5.below hm6.below rQ5.lt
  clear rP5 rQ5
  clear hm6
  have hp6 := IntRow.new w6 33 zer
  have hb6 := below_setRow ((Below.refl w6.heap.size w6).alloc (Nat.le_refl _) (.cells (ints zer).toArray 33)) (Nat.le_refl _) (ints x).toArray
  have hn6 := hp6.put x
  have hk7 := hk6.step hb6
  have rP7 := rP6.below hb6 rP6.lt
  have rQ7 := rQ6.below hb6 rQ6.lt
  clear rP6 rQ6
  have rX7 := hn6
  go_wp2_with (first
      | (refine wpList_store_row rfl 33 _ _ rfl w6.heap.size (ints x).toArray (by rfl) (by rfl) 33 (ints zer).toArray hp6 (sz8 hx8) (old8 hx8) (ints_one _) ?_)
      | (refine wpList_load_row rfl 33 _ rfl _ rfl 33 (ints p).toArray (0, 0) _ rP7 Tryd.underlying33 rfl (sz8 h8) ?_)
      | (refine wpList_load_row rfl 33 _ rfl _ rfl 33 (ints p).toArray (0, 0) _ rQ7 Tryd.underlying33 rfl (sz8 h8) ?_)
      | (refine wpList_load_row rfl 33 _ rfl _ rfl 33 (ints x).toArray (0, 0) _ rX7 Tryd.underlying33 rfl (sz8 hx8) ?_))
  refine (cY hk7.good).mono ?_
  rintro e w8 ⟨rfl, hm8⟩
  have hk8 := hk7.step hm8.below
  have rP8 := rP7.below hm8.below rP7.lt
  have rQ8 := rQ7.below hm8.below rQ7.lt
  have rX8 := rX7.below hm8.below rX7.lt
  clear rP7 rQ7 rX7
  clear hm8
  have hpp := HP.out
  have hxx := HX.out
  clear HP HX
  subst hpp hxx
  have cP := rP8.eight
  have cX8 := rX8.eight
  have cQ8 := rQ8.eight
  have he8 : ∀ w : World, (Op.equalIn 10000 33 (.agg #[.int .i64 x0, .int .i64 x1, .int .i64 x2, .int .i64 x3, .int .i64 x4, .int .i64 x5, .int .i64 x6, .int .i64 x7]) (.agg #[.int .i64 x0, .int .i64 x1, .int .i64 x2, .int .i64 x3, .int .i64 x4, .int .i64 x5, .int .i64 x6, .int .i64 x7])).run Tryd.prog w = .ok true w := fun w => (eq8 (p := [x0, x1, x2, x3, x4, x5, x6, x7]) (q := [x0, x1, x2, x3, x4, x5, x6, x7]) rfl rfl w).trans (by rw [beq_self_eq_true])
  clear cS cM cY cT he hp
  go_wp2_with fail
  go_ret
  exact ⟨rfl, hk8.below⟩
  
set_option maxHeartbeats 4000000 in
set_option maxRecDepth 100000 in
theorem sixBack_not_can (p : List Int) (s : ByteArray) (h8 : p.length = 8) (hm : mayB p = false) (x : List Int) (hx8 : x.length = 8) (hp : ∀ {w : World} (_ : Good w), Calls Tryd.prog 26 #[.string s] w fun e w' => e = .returned (.tuple #[.agg (ints x).toArray, .bool true]) ∧ Ok w w') (y : List UInt8) (hy : showSix x = y)
    (hmx : mayB x = true) (hy1 : y ≠ []) (hy2 : y.length ≤ s.size + 1)
    (hl : s.size ≤ 300) (w : World) (hG : Good w) : Calls Tryd.prog 9 #[.agg (ints p).toArray, .string s] w fun e w' => e = .returned (.bool true) ∧ Below w.heap.size w w' := by
  obtain ⟨x0, x1, x2, x3, x4, x5, x6, x7, rfl⟩ := list8 p h8
  obtain ⟨y0, y1, y2, y3, y4, y5, y6, y7, rfl⟩ := list8 x hx8
  obtain ⟨p, hpp⟩ : ∃ p, p = [x0, x1, x2, x3, x4, x5, x6, x7] := ⟨_, rfl⟩
  obtain ⟨x, hxx⟩ : ∃ x, x = [y0, y1, y2, y3, y4, y5, y6, y7] := ⟨_, rfl⟩
  rw [← hpp] at h8 hm ⊢
  rw [← hxx] at hx8 hy hmx
  simp only [← hxx] at hp
  have HP := Lib.hid hpp
  have HX := Lib.hid hxx
  clear hpp hxx
  have hk0 : Ok w (w.alloc (.cells (ints p).toArray 33)) := (Ok.refl hG).alloc _
  have hp0 := IntRow.new w 33 p
  have cS := fun {w : World} (hG : Good w) => oShow6 (Ok.refl hG) p h8
  have cM := fun {w : World} (hG : Good w) => oMay6 (Ok.refl hG) p h8
  have cY := fun {w : World} (hG : Good w) => oShow6 (Ok.refl hG) x hx8
  rw [hy] at cY
  rw [hm] at cM
  have cT := fun {w : World} (hG : Good w) => oParse6L hG [] (by decide)
  simp only [parse_nil6, casts_no8] at cT
  rw [showSix_no hm] at cS
  have hye : y.isEmpty = false := by simpa using hy1
  have hyl : (y.length : Int) ≤ s.size + 1 := by omega
  have cX := fun {w : World} (hG : Good w) => oMay6 (Ok.refl hG) x hx8
  rw [hmx] at cX
  have he : ∀ w : World, (Op.equalIn 10000 33 (.agg (ints p).toArray) (.agg (ints p).toArray)).run Tryd.prog w = .ok true w := fun w => (eq8 h8 h8 w).trans (by rw [beq_self_eq_true])
  clear hm hy
  go_enter Tryd.func9, Tryd.ntmps9
  have rP0 := hp0
  go_wp2_with fail
  refine (awake6 (Ok.refl hk0.good)).mono ?_
  rintro e w1 ⟨rfl, hm1⟩
  have hk1 := hk0.step hm1.below
  have rP1 := rP0.below hm1.below rP0.lt
  clear rP0
  clear hm1
  go_wp2_with (first
      | (refine wpList_load_row rfl 33 _ rfl _ rfl 33 (ints p).toArray (0, 0) _ rP1 Tryd.underlying33 rfl (sz8 h8) ?_))
  refine (cS hk1.good).mono ?_
  rintro e w2 ⟨rfl, hm2⟩
  have hk2 := hk1.step hm2.below
  have rP2 := rP1.below hm2.below rP1.lt
  clear rP1
  clear hm2
  go_wp2_with fail
  refine (cT hk2.good).mono ?_
  rintro e w3 ⟨rfl, hm3⟩
  have hk3 := hk2.step hm3.below
  have rP3 := rP2.below hm3.below rP2.lt
  clear rP2
  clear hm3
  have hp3 := IntRow.new w3 33 zer
  have hb3 := below_setRow ((Below.refl w3.heap.size w3).alloc (Nat.le_refl _) (.cells (ints zer).toArray 33)) (Nat.le_refl _) (ints zer).toArray
  have hn3 := hp3.put zer
  have hk4 := hk3.step hb3
  have rP4 := rP3.below hb3 rP3.lt
  clear rP3
  have rQ4 := hn3
  go_wp2_with (first
      | (refine wpList_store_row rfl 33 _ _ rfl w3.heap.size (ints zer).toArray (by rfl) (by rfl) 33 (ints zer).toArray hp3 (sz8 rfl) (old8 rfl) (ints_one _) ?_)
      | (refine wpList_load_row rfl 33 _ rfl _ rfl 33 (ints p).toArray (0, 0) _ rP4 Tryd.underlying33 rfl (sz8 h8) ?_)
      | (refine wpList_load_row rfl 33 _ rfl _ rfl 33 (ints zer).toArray (0, 0) _ rQ4 Tryd.underlying33 rfl (sz8 rfl) ?_))
  refine (cM hk4.good).mono ?_
  rintro e w5 ⟨rfl, hm5⟩
  have hk5 := hk4.step hm5.below
  have rP5 := rP4.below hm5.below rP4.lt
  have rQ5 := rQ4.below hm5.below rQ4.lt
  clear rP4 rQ4
  clear hm5
  go_wp2_with fail
  refine (hp hk5.good).mono ?_
  rintro e w6 ⟨rfl, hm6⟩
  have hk6 := hk5.step hm6.below
  have rP6 := rP5.below hm6.below rP5.lt
  have rQ6 := rQ5.below hm6.below rQ5.lt
  clear rP5 rQ5
  clear hm6
  have hp6 := IntRow.new w6 33 zer
  have hb6 := below_setRow ((Below.refl w6.heap.size w6).alloc (Nat.le_refl _) (.cells (ints zer).toArray 33)) (Nat.le_refl _) (ints x).toArray
  have hn6 := hp6.put x
  have hk7 := hk6.step hb6
  have rP7 := rP6.below hb6 rP6.lt
  have rQ7 := rQ6.below hb6 rQ6.lt
  clear rP6 rQ6
  have rX7 := hn6
  go_wp2_with (first
      | (refine wpList_store_row rfl 33 _ _ rfl w6.heap.size (ints x).toArray (by rfl) (by rfl) 33 (ints zer).toArray hp6 (sz8 hx8) (old8 hx8) (ints_one _) ?_)
      | (refine wpList_load_row rfl 33 _ rfl _ rfl 33 (ints p).toArray (0, 0) _ rP7 Tryd.underlying33 rfl (sz8 h8) ?_)
      | (refine wpList_load_row rfl 33 _ rfl _ rfl 33 (ints zer).toArray (0, 0) _ rQ7 Tryd.underlying33 rfl (sz8 rfl) ?_)
      | (refine wpList_load_row rfl 33 _ rfl _ rfl 33 (ints x).toArray (0, 0) _ rX7 Tryd.underlying33 rfl (sz8 hx8) ?_))
  refine (cY hk7.good).mono ?_
  rintro e w8 ⟨rfl, hm8⟩
  have hk8 := hk7.step hm8.below
  have rP8 := rP7.below hm8.below rP7.lt
  have rQ8 := rQ7.below hm8.below rQ7.lt
  have rX8 := rX7.below hm8.below rX7.lt
  clear rP7 rQ7 rX7
  clear hm8
  have hpp := HP.out
  have hxx := HX.out
  clear HP HX
  subst hpp hxx
  have cP := rP8.eight
  have cX8 := rX8.eight
  have he8 : ∀ w : World, (Op.equalIn 10000 33 (.agg #[.int .i64 x0, .int .i64 x1, .int .i64 x2, .int .i64 x3, .int .i64 x4, .int .i64 x5, .int .i64 x6, .int .i64 x7]) (.agg #[.int .i64 x0, .int .i64 x1, .int .i64 x2, .int .i64 x3, .int .i64 x4, .int .i64 x5, .int .i64 x6, .int .i64 x7])).run Tryd.prog w = .ok true w := fun w => (eq8 (p := [x0, x1, x2, x3, x4, x5, x6, x7]) (q := [x0, x1, x2, x3, x4, x5, x6, x7]) rfl rfl w).trans (by rw [beq_self_eq_true])
  clear cS cM cY cT he hp
  go_wp2_with fail
  refine (cX hk8.good).mono ?_
  rintro e w9 ⟨rfl, hm9⟩
  have hk9 := hk8.step hm9.below
  have rP9 := rP8.below hm9.below rP8.lt
  have rQ9 := rQ8.below hm9.below rQ8.lt
  have rX9 := rX8.below hm9.below rX8.lt
  clear rP8 rQ8 rX8
  clear hm9
  go_wp2_with fail
  go_ret
  exact ⟨rfl, hk9.below⟩
  
set_option maxHeartbeats 4000000 in
set_option maxRecDepth 100000 in
theorem sixBack_not_none (p : List Int) (s : ByteArray) (h8 : p.length = 8) (hm : mayB p = false) (x : List Int) (hx8 : x.length = 8) (hp : ∀ {w : World} (_ : Good w), Calls Tryd.prog 26 #[.string s] w fun e w' => e = .returned (.tuple #[.agg (ints x).toArray, .bool false]) ∧ Ok w w') (y : List UInt8) (hy : showSix x = y)
    (hl : s.size ≤ 300) (w : World) (hG : Good w) : Calls Tryd.prog 9 #[.agg (ints p).toArray, .string s] w fun e w' => e = .returned (.bool true) ∧ Below w.heap.size w w' := by
  obtain ⟨x0, x1, x2, x3, x4, x5, x6, x7, rfl⟩ := list8 p h8
  obtain ⟨y0, y1, y2, y3, y4, y5, y6, y7, rfl⟩ := list8 x hx8
  obtain ⟨p, hpp⟩ : ∃ p, p = [x0, x1, x2, x3, x4, x5, x6, x7] := ⟨_, rfl⟩
  obtain ⟨x, hxx⟩ : ∃ x, x = [y0, y1, y2, y3, y4, y5, y6, y7] := ⟨_, rfl⟩
  rw [← hpp] at h8 hm ⊢
  rw [← hxx] at hx8 hy
  simp only [← hxx] at hp
  have HP := Lib.hid hpp
  have HX := Lib.hid hxx
  clear hpp hxx
  have hk0 : Ok w (w.alloc (.cells (ints p).toArray 33)) := (Ok.refl hG).alloc _
  have hp0 := IntRow.new w 33 p
  have cS := fun {w : World} (hG : Good w) => oShow6 (Ok.refl hG) p h8
  have cM := fun {w : World} (hG : Good w) => oMay6 (Ok.refl hG) p h8
  have cY := fun {w : World} (hG : Good w) => oShow6 (Ok.refl hG) x hx8
  rw [hy] at cY
  rw [hm] at cM
  have cT := fun {w : World} (hG : Good w) => oParse6L hG [] (by decide)
  simp only [parse_nil6, casts_no8] at cT
  rw [showSix_no hm] at cS
  have he : ∀ w : World, (Op.equalIn 10000 33 (.agg (ints p).toArray) (.agg (ints p).toArray)).run Tryd.prog w = .ok true w := fun w => (eq8 h8 h8 w).trans (by rw [beq_self_eq_true])
  clear hm hy
  go_enter Tryd.func9, Tryd.ntmps9
  have rP0 := hp0
  go_wp2_with fail
  refine (awake6 (Ok.refl hk0.good)).mono ?_
  rintro e w1 ⟨rfl, hm1⟩
  have hk1 := hk0.step hm1.below
  have rP1 := rP0.below hm1.below rP0.lt
  clear rP0
  clear hm1
  go_wp2_with (first
      | (refine wpList_load_row rfl 33 _ rfl _ rfl 33 (ints p).toArray (0, 0) _ rP1 Tryd.underlying33 rfl (sz8 h8) ?_))
  refine (cS hk1.good).mono ?_
  rintro e w2 ⟨rfl, hm2⟩
  have hk2 := hk1.step hm2.below
  have rP2 := rP1.below hm2.below rP1.lt
  clear rP1
  clear hm2
  go_wp2_with fail
  refine (cT hk2.good).mono ?_
  rintro e w3 ⟨rfl, hm3⟩
  have hk3 := hk2.step hm3.below
  have rP3 := rP2.below hm3.below rP2.lt
  clear rP2
  clear hm3
  have hp3 := IntRow.new w3 33 zer
  have hb3 := below_setRow ((Below.refl w3.heap.size w3).alloc (Nat.le_refl _) (.cells (ints zer).toArray 33)) (Nat.le_refl _) (ints zer).toArray
  have hn3 := hp3.put zer
  have hk4 := hk3.step hb3
  have rP4 := rP3.below hb3 rP3.lt
  clear rP3
  have rQ4 := hn3
  go_wp2_with (first
      | (refine wpList_store_row rfl 33 _ _ rfl w3.heap.size (ints zer).toArray (by rfl) (by rfl) 33 (ints zer).toArray hp3 (sz8 rfl) (old8 rfl) (ints_one _) ?_)
      | (refine wpList_load_row rfl 33 _ rfl _ rfl 33 (ints p).toArray (0, 0) _ rP4 Tryd.underlying33 rfl (sz8 h8) ?_)
      | (refine wpList_load_row rfl 33 _ rfl _ rfl 33 (ints zer).toArray (0, 0) _ rQ4 Tryd.underlying33 rfl (sz8 rfl) ?_))
  refine (cM hk4.good).mono ?_
  rintro e w5 ⟨rfl, hm5⟩
  have hk5 := hk4.step hm5.below
  have rP5 := rP4.below hm5.below rP4.lt
  have rQ5 := rQ4.below hm5.below rQ4.lt
  clear rP4 rQ4
  clear hm5
  go_wp2_with fail
  refine (hp hk5.good).mono ?_
  rintro e w6 ⟨rfl, hm6⟩
  have hk6 := hk5.step hm6.below
  have rP6 := rP5.below hm6.below rP5.lt
  have rQ6 := rQ5.below hm6.below rQ5.lt
  clear rP5 rQ5
  clear hm6
  have hp6 := IntRow.new w6 33 zer
  have hb6 := below_setRow ((Below.refl w6.heap.size w6).alloc (Nat.le_refl _) (.cells (ints zer).toArray 33)) (Nat.le_refl _) (ints x).toArray
  have hn6 := hp6.put x
  have hk7 := hk6.step hb6
  have rP7 := rP6.below hb6 rP6.lt
  have rQ7 := rQ6.below hb6 rQ6.lt
  clear rP6 rQ6
  have rX7 := hn6
  go_wp2_with (first
      | (refine wpList_store_row rfl 33 _ _ rfl w6.heap.size (ints x).toArray (by rfl) (by rfl) 33 (ints zer).toArray hp6 (sz8 hx8) (old8 hx8) (ints_one _) ?_)
      | (refine wpList_load_row rfl 33 _ rfl _ rfl 33 (ints p).toArray (0, 0) _ rP7 Tryd.underlying33 rfl (sz8 h8) ?_)
      | (refine wpList_load_row rfl 33 _ rfl _ rfl 33 (ints zer).toArray (0, 0) _ rQ7 Tryd.underlying33 rfl (sz8 rfl) ?_)
      | (refine wpList_load_row rfl 33 _ rfl _ rfl 33 (ints x).toArray (0, 0) _ rX7 Tryd.underlying33 rfl (sz8 hx8) ?_))
  refine (cY hk7.good).mono ?_
  rintro e w8 ⟨rfl, hm8⟩
  have hk8 := hk7.step hm8.below
  have rP8 := rP7.below hm8.below rP7.lt
  have rQ8 := rQ7.below hm8.below rQ7.lt
  have rX8 := rX7.below hm8.below rX7.lt
  clear rP7 rQ7 rX7
  clear hm8
  have hpp := HP.out
  have hxx := HX.out
  clear HP HX
  subst hpp hxx
  have cP := rP8.eight
  have cX8 := rX8.eight
  have he8 : ∀ w : World, (Op.equalIn 10000 33 (.agg #[.int .i64 x0, .int .i64 x1, .int .i64 x2, .int .i64 x3, .int .i64 x4, .int .i64 x5, .int .i64 x6, .int .i64 x7]) (.agg #[.int .i64 x0, .int .i64 x1, .int .i64 x2, .int .i64 x3, .int .i64 x4, .int .i64 x5, .int .i64 x6, .int .i64 x7])).run Tryd.prog w = .ok true w := fun w => (eq8 (p := [x0, x1, x2, x3, x4, x5, x6, x7]) (q := [x0, x1, x2, x3, x4, x5, x6, x7]) rfl rfl w).trans (by rw [beq_self_eq_true])
  clear cS cM cY cT he hp
  go_wp2_with fail
  go_ret
  exact ⟨rfl, hk8.below⟩
  
set_option maxHeartbeats 1000000 in
set_option maxRecDepth 100000 in
theorem law_SixBack (p : List Int) (s : ByteArray) (h8 : p.length = 8) (_hw : ∀ x ∈ p, (Lit.int .i64 x).wf = true) (hs : s.size ≤ 140737488351232) (w : World) (hG : Good w) :
    Calls Tryd.prog 9 #[.agg (ints p).toArray, .string s] w fun e w' => e = .returned (.bool true) ∧ Below w.heap.size w w' := by
  by_cases hl : s.size ≤ 300
  · have hp := fun {w : World} (hG : Good w) => oParse6 (Ok.refl hG) s (by omega)
    have h8k := parseSix_len s.data.toList
    obtain ⟨k, can, hkc⟩ : ∃ k can, parseSix s.data.toList = (k, can) := ⟨_, _, rfl⟩
    rw [hkc] at hp h8k
    have hx8 : (casts k).length = 8 := by rw [casts_length]; exact h8k
    cases can with
    | true =>
      have hc := casts_may hkc
      have hlen : s.data.toList.length = s.size := by rw [Array.length_toList]; rfl
      rw [hlen] at hc
      cases hm : mayB p with
      | true => exact sixBack_may_can p s h8 hm _ hx8 hp _ rfl hc.1 (showSix_ne hx8 hc.1) hc.2 hl w hG
      | false => exact sixBack_not_can p s h8 hm _ hx8 hp _ rfl hc.1 (showSix_ne hx8 hc.1) hc.2 hl w hG
    | false =>
      cases hm : mayB p with
      | true => exact sixBack_may_none p s h8 hm _ hx8 hp _ rfl hl w hG
      | false => exact sixBack_not_none p s h8 hm _ hx8 hp _ rfl hl w hG
  · have hk0 : Ok w (w.alloc (.cells (ints p).toArray 33)) := (Ok.refl hG).alloc _
    go_enter Tryd.func9, Tryd.ntmps9
    go_wp2_with fail
    refine (awake6 (Ok.refl hk0.good)).mono ?_
    rintro e w1 ⟨rfl, hm1⟩
    go_wp2
    go_ret
    exact ⟨rfl, (hk0.step hm1.below).below⟩

end Go.Proofs.YtcpnfokpgiigcaaDoor
