/- The law HeadParse, walked over the contracts. -/
import Derived.Test.YtgbjofahmkeapaaDoorHeadQ
import Derived.Test.YtgbjofahmkeapaaDoorLaw13e
namespace Go.Proofs.YtgbjofahmkeapaaDoor
open Go.RowKit Go.Proofs.YtgbjofahmkeapaaDoorW.PrintWords
set_option linter.unusedVariables false
set_option linter.unnecessarySimpa false
set_option linter.unusedSimpArgs false

set_option maxHeartbeats 8000000 in
set_option maxRecDepth 100000 in
theorem hp_long_a (a b : List UInt8) (i : Int) (w : World) (hG : Good w) (h_a : 300 < a.length) :
    Calls Tryd.prog 6 #[.string ⟨a.toArray⟩, .string ⟨b.toArray⟩, .int .i64 i] w fun e w' => e = .returned (.bool true) ∧ Below w.heap.size w w' := by
  have d_a : decide ((300 : Int) < (a.length : Int)) = true := decide_eq_true (by omega)
  have e_a : decide (300 < a.length) = true := decide_eq_true (by omega)
  clear h_a
  have hk0 := Ok.refl hG
  go_enter Tryd.func6, Tryd.ntmps6
  go_wp2_with fail
  refine (awake13 w hk0.good).mono ?_
  rintro e w1 ⟨rfl, hb1⟩
  have hkc1 := hk0.step hb1
  go_wp2
  go_ret
  exact ⟨rfl, hkc1.below⟩

set_option maxHeartbeats 8000000 in
set_option maxRecDepth 100000 in
theorem hp_long_b (a b : List UInt8) (i : Int) (w : World) (hG : Good w) (h_a : a.length ≤ 300) (h_b : 300 < b.length) :
    Calls Tryd.prog 6 #[.string ⟨a.toArray⟩, .string ⟨b.toArray⟩, .int .i64 i] w fun e w' => e = .returned (.bool true) ∧ Below w.heap.size w w' := by
  have d_a : decide ((300 : Int) < (a.length : Int)) = false := decide_eq_false (by omega)
  have e_a : decide (300 < a.length) = false := decide_eq_false (by omega)
  have d_b : decide ((300 : Int) < (b.length : Int)) = true := decide_eq_true (by omega)
  have e_b : decide (300 < b.length) = true := decide_eq_true (by omega)
  clear h_a
  clear h_b
  have hk0 := Ok.refl hG
  go_enter Tryd.func6, Tryd.ntmps6
  go_wp2_with fail
  refine (awake13 w hk0.good).mono ?_
  rintro e w1 ⟨rfl, hb1⟩
  have hkc1 := hk0.step hb1
  go_wp2
  go_ret
  exact ⟨rfl, hkc1.below⟩

set_option maxHeartbeats 8000000 in
set_option maxRecDepth 100000 in
theorem hp_no (a b : List UInt8) (i : Int) (w : World) (hG : Good w) (h_a : a.length ≤ 300) (h_b : b.length ≤ 300) (ha : parseHd a = ([], false)) :
    Calls Tryd.prog 6 #[.string ⟨a.toArray⟩, .string ⟨b.toArray⟩, .int .i64 i] w fun e w' => e = .returned (.bool true) ∧ Below w.heap.size w w' := by
  have cA := fun w1 (hG : Good w1) => head_Parse_any a (by omega) w1 hG
  have cB := fun w1 (hG : Good w1) => head_Parse_any b (by omega) w1 hG
  rw [ha] at cA
  dsimp only at cA
  have d_a : decide ((300 : Int) < (a.length : Int)) = false := decide_eq_false (by omega)
  have e_a : decide (300 < a.length) = false := decide_eq_false (by omega)
  have d_b : decide ((300 : Int) < (b.length : Int)) = false := decide_eq_false (by omega)
  have e_b : decide (300 < b.length) = false := decide_eq_false (by omega)
  clear h_a h_b
  generalize parseHd b = pb at *
  obtain ⟨YL, two⟩ := pb
  dsimp only at cB
  have hk0 := Ok.refl hG
  go_enter Tryd.func6, Tryd.ntmps6
  go_wp2_with fail
  refine (awake13 w hk0.good).mono ?_
  rintro e w1 ⟨rfl, hb1⟩
  have hkc1 := hk0.step hb1
  go_wp2_with fail
  refine (cA w1 hkc1.good).mono ?_
  rintro e w2 ⟨v2, rfl, ho2, hb2⟩
  have hkc2 := hkc1.step hb2
  have hXn := flds_here ho2
  obtain ⟨aoX, caX, rfl⟩ := hXn.shape
  have hX0 := Lib.hid hXn
  clear hXn ho2
  go_wp2_with fail
  refine (cB w2 hkc2.good).mono ?_
  rintro e w3 ⟨v3, rfl, ho3, hb3⟩
  have hkc3 := hkc2.step hb3
  have hX1 := Lib.hid ((hX0.out.below hb3).mono hb3.size)
  clear hX0
  have hYn := flds_here ho3
  obtain ⟨aoY, caY, rfl⟩ := hYn.shape
  have hY0 := Lib.hid hYn
  clear hYn ho3
  go_wp2
  go_ret
  exact ⟨rfl, hkc3.below⟩

set_option maxHeartbeats 8000000 in
set_option maxRecDepth 100000 in
theorem hp_two (a b : List UInt8) (i : Int) (w : World) (hG : Good w) (h_a : a.length ≤ 300) (h_b : b.length ≤ 300) (XL : List Fld) (ha : parseHd a = (XL, true)) (YL : List Fld) (hb : parseHd b = (YL, true)) (hi : i < 0 ∨ (∃ k : Nat, i = k ∧ XL.length ≤ k) ∨ ∃ k : Nat, i = k ∧ ∃ x, XL[k]? = some x) :
    Calls Tryd.prog 6 #[.string ⟨a.toArray⟩, .string ⟨b.toArray⟩, .int .i64 i] w fun e w' => e = .returned (.bool true) ∧ Below w.heap.size w w' := by
  have cA := fun w1 (hG : Good w1) => head_Parse_any a (by omega) w1 hG
  have cB := fun w1 (hG : Good w1) => head_Parse_any b (by omega) w1 hG
  have lXl : XL.length ≤ 300 := by have := parse_len a; rw [ha] at this; dsimp only at this; omega
  have lYl : YL.length ≤ 300 := by have := parse_len b; rw [hb] at this; dsimp only at this; omega
  have lX : XL.length ≤ 300 ∧ ∀ f ∈ XL, f.1.length ≤ 300 ∧ f.2.length ≤ 300 := ⟨lXl, fun f hf => by
    have := field_len (raw := a) f (by rw [ha]; exact hf)
    omega⟩
  have lF : ∀ f ∈ XL, nameB f.1 = true ∧ valueB f.2 = true := fun f hf => parse_fields (raw := a) f (by rw [ha]; exact hf)
  have lW : (writeL XL).length ≤ 300 * 604 := Nat.le_trans (write_len (m := 300) XL lX.2) (Nat.mul_le_mul_right _ lX.1)
  have cS := fun w1 (hG : Good w1) => head_Parse_any (writeL XL) (by omega) w1 hG
  rw [parse_write XL lF] at cS
  have hab : (⟨a.toArray⟩ ++ ⟨b.toArray⟩ : ByteArray) = ⟨(a ++ b).toArray⟩ := toList_inj (by simp [ByteArray.data_append])
  have cAB := fun w1 (hG : Good w1) => head_Parse_any (a ++ b) (by rw [List.length_append]; omega) w1 hG
  rw [← hab, parse_app b _ a (Nat.le_refl _) XL ha, hb] at cAB
  rw [if_pos rfl] at cAB
  rw [ha] at cA
  rw [hb] at cB
  dsimp only at cA cB cS cAB
  clear hab
  obtain ⟨M, eqM⟩ : ∃ M : List Fld, M = XL ++ YL := ⟨_, rfl⟩
  have lM : M.length ≤ 600 := by rw [eqM, List.length_append]; omega
  rw [← eqM] at cAB
  have cUM := fun ao ca bo cb w1 hU hM => head_Same_any ao ca M bo cb M (by omega) (by omega) w1 (Flds.fa (cap := ca) hU) (Flds.fa (cap := cb) hM)
  rw [beq_self_eq_true] at cUM
  have cZX := fun ao ca bo cb w1 hZ hX => head_Same_any ao ca XL bo cb XL (by omega) (by omega) w1 (Flds.fa (cap := ca) hZ) (Flds.fa (cap := cb) hX)
  rw [beq_self_eq_true] at cZX
  have eqMh := Lib.hid eqM
  clear eqM ha hb
  have d_a : decide ((300 : Int) < (a.length : Int)) = false := decide_eq_false (by omega)
  have e_a : decide (300 < a.length) = false := decide_eq_false (by omega)
  have d_b : decide ((300 : Int) < (b.length : Int)) = false := decide_eq_false (by omega)
  have e_b : decide (300 < b.length) = false := decide_eq_false (by omega)
  have hsum : a.length + b.length ≤ 9223372036854775807 := by omega
  have hk0 := Ok.refl hG
  go_enter Tryd.func6, Tryd.ntmps6
  go_wp2_with fail
  refine (awake13 w hk0.good).mono ?_
  rintro e w1 ⟨rfl, hb1⟩
  have hkc1 := hk0.step hb1
  go_wp2_with fail
  refine (cA w1 hkc1.good).mono ?_
  rintro e w2 ⟨v2, rfl, ho2, hb2⟩
  have hkc2 := hkc1.step hb2
  have hXn := flds_here ho2
  obtain ⟨aoX, caX, rfl⟩ := hXn.shape
  have hX0 := Lib.hid hXn
  clear hXn ho2
  go_wp2_with fail
  refine (cB w2 hkc2.good).mono ?_
  rintro e w3 ⟨v3, rfl, ho3, hb3⟩
  have hkc3 := hkc2.step hb3
  have hX1 := Lib.hid ((hX0.out.below hb3).mono hb3.size)
  clear hX0
  have hYn := flds_here ho3
  obtain ⟨aoY, caY, rfl⟩ := hYn.shape
  have hY0 := Lib.hid hYn
  clear hYn ho3
  go_wp2
  go_loopw [12, 13] (fun s i wr => ∃ k : Nat, ∃ S : ByteArray, s = .string S ∧ i = .int .i64 k ∧ k ≤ XL.length ∧ S.size ≤ 400000 ∧ Hid (S.data.toList = writeL (XL.take k)) ∧ Below w3.heap.size w3 wr) (fun _ i _ => XL.length - (intOf i).toNat)
  case atStart => exact ⟨0, ⟨#[]⟩, rfl, rfl, Nat.zero_le _, by decide, rfl, Below.refl _ _⟩
  case round =>
    obtain ⟨k, S, rfl, rfl, hk, hS, hw, hbl⟩ := hrel
    by_cases hlt : k < XL.length
    · obtain ⟨x, hx⟩ : ∃ x, XL[k]? = some x := ⟨_, List.getElem?_eq_getElem hlt⟩
      obtain ⟨gx, ox, rfl, hgx, a1, a2⟩ := hX1.out.fa k _ hx
      have c1 := (hbl.cell (p := ⟨gx, ox + k * 2, none⟩) hgx).trans a1
      have c2 := (hbl.cell (p := ⟨gx, ox + k * 2 + 1, none⟩) hgx).trans a2
      have hst := write_step hx
      have hln : (writeL (XL.take (k + 1))).length ≤ 300 * 604 := by
        have h1 := write_len (m := 300) (XL.take (k + 1)) (fun f hf => lX.2 f (List.mem_of_mem_take hf))
        have h2 : (XL.take (k + 1)).length ≤ 300 := Nat.le_trans (by rw [List.length_take]; omega) lX.1
        exact Nat.le_trans h1 (Nat.mul_le_mul_right _ h2)
      obtain ⟨p, q⟩ := x
      dsimp only at c1 c2 hst
      have hnew : (S ++ ⟨p.toArray⟩ ++ ⟨#[58, 32]⟩ ++ ⟨q.toArray⟩ ++ ⟨#[13, 10]⟩ : ByteArray).data.toList = writeL (XL.take (k + 1)) := by
        rw [hst, ← hw.out]
        simp [ByteArray.data_append, lineF]
      have hsz : (S ++ ⟨p.toArray⟩ ++ ⟨#[58, 32]⟩ ++ ⟨q.toArray⟩ ++ ⟨#[13, 10]⟩ : ByteArray).size ≤ 400000 := by rw [size_list, hnew]; omega
      have hp : p.length ≤ 300 := (lX.2 _ (List.mem_of_getElem? hx)).1
      have hq : q.length ≤ 300 := (lX.2 _ (List.mem_of_getElem? hx)).2
      have HN := Lib.hid hnew
      have HZ := Lib.hid hsz
      clear hnew hsz hst hln hx a1 a2 hw
      go_wp2
      go_big_region
      go_wp2
      refine ⟨⟨k + 1, _, rfl, by go_num, hlt, HZ.out, HN.out, hbl.drew⟩, by simp [intOf]; omega⟩
    · obtain rfl : k = XL.length := by omega
      have hSw : S = ⟨(writeL XL).toArray⟩ := toList_inj (by rw [mk_toList, hw.out, List.take_length])
      have HSW := Lib.hid hSw
      clear hw hSw
      have hkL := hkc3.step hbl
      have hX2 := Lib.hid ((hX1.out.below hbl).mono hbl.size)
      clear hX1
      have hY3 := Lib.hid ((hY0.out.below hbl).mono hbl.size)
      clear hY0
      rw [← HSW.out] at cS
      go_wp2_with fail
      refine (cS wr hkL.good).mono ?_
      rintro e w4 ⟨v4, rfl, ho4, hb4⟩
      have hkc4 := hkL.step hb4
      have hX4 := Lib.hid ((hX2.out.below hb4).mono hb4.size)
      clear hX2
      have hY5 := Lib.hid ((hY3.out.below hb4).mono hb4.size)
      clear hY3
      have hZn := flds_here ho4
      obtain ⟨aoZ, caZ, rfl⟩ := hZn.shape
      have hZ0 := Lib.hid hZn
      clear hZn ho4
      go_wp2_with fail
      refine (cAB w4 hkc4.good).mono ?_
      rintro e w5 ⟨v5, rfl, ho5, hb5⟩
      have hkc5 := hkc4.step hb5
      have hX6 := Lib.hid ((hX4.out.below hb5).mono hb5.size)
      clear hX4
      have hY7 := Lib.hid ((hY5.out.below hb5).mono hb5.size)
      clear hY5
      have hZ8 := Lib.hid ((hZ0.out.below hb5).mono hb5.size)
      clear hZ0
      have hUn := flds_here ho5
      obtain ⟨aoU, caU, rfl⟩ := hUn.shape
      have hU0 := Lib.hid hUn
      clear hUn ho5
      go_wp2_with (at_builtin; refine wpList_appendFs rfl _ _ rfl (w5.heap.size) w5 _ ([]) (XL) _ (by rfl) (by rfl) hX6.out (World.ownsRow_nil _ _ _ _) (Nat.le_refl _) (by simp only [List.length_nil, List.length_append]; omega) ?_)
      intro v6 w6 ho6 hp6
      have hq6 := hp6
      go_wp2_with (at_builtin; refine wpList_appendFs rfl _ _ rfl (w5.heap.size) w6 _ ([] ++ XL) (YL) _ (by rfl) (by rfl) ((hY7.out.below hq6).mono hq6.size) ho6 hq6.size (by simp only [List.length_nil, List.length_append]; omega) ?_)
      intro v7 w7 ho7 hp7
      have hq7 := hq6.trans hp7
      have hkc7 := hkc5.step hq7
      have hX9 := Lib.hid ((hX6.out.below hq7).mono hq7.size)
      clear hX6
      have hY10 := Lib.hid ((hY7.out.below hq7).mono hq7.size)
      clear hY7
      have hZ11 := Lib.hid ((hZ8.out.below hq7).mono hq7.size)
      clear hZ8
      have hU12 := Lib.hid ((hU0.out.below hq7).mono hq7.size)
      clear hU0
      have hr7 : w7.ownsRow (w5.heap.size) 42 2 v7 (XL ++ YL).length (flds (XL ++ YL)) := by simpa using ho7
      rw [← eqMh.out] at hr7
      have hMn := flds_here hr7
      obtain ⟨aoM, caM, rfl⟩ := hMn.shape
      have hM0 := Lib.hid hMn
      clear hMn ho7 hr7
      go_wp2_with fail
      refine (cUM _ _ _ _ w7 hU12.out hM0.out).mono ?_
      rintro e w8 ⟨rfl, hb8⟩
      have hkc8 := hkc7.step hb8
      have hX13 := Lib.hid ((hX9.out.below hb8).mono hb8.size)
      clear hX9
      have hY14 := Lib.hid ((hY10.out.below hb8).mono hb8.size)
      clear hY10
      have hZ15 := Lib.hid ((hZ11.out.below hb8).mono hb8.size)
      clear hZ11
      have hU16 := Lib.hid ((hU12.out.below hb8).mono hb8.size)
      clear hU12
      have hM17 := Lib.hid ((hM0.out.below hb8).mono hb8.size)
      clear hM0
      go_wp2_with fail
      refine (cZX _ _ _ _ w8 hZ15.out hX13.out).mono ?_
      rintro e w9 ⟨rfl, hb9⟩
      have hkc9 := hkc8.step hb9
      have hX18 := Lib.hid ((hX13.out.below hb9).mono hb9.size)
      clear hX13
      have hY19 := Lib.hid ((hY14.out.below hb9).mono hb9.size)
      clear hY14
      have hZ20 := Lib.hid ((hZ15.out.below hb9).mono hb9.size)
      clear hZ15
      have hU21 := Lib.hid ((hU16.out.below hb9).mono hb9.size)
      clear hU16
      have hM22 := Lib.hid ((hM17.out.below hb9).mono hb9.size)
      clear hM17
      rcases hi with hi | hi | ⟨k, hk, x, hx⟩
      · have g1 : decide (i < 0) = true := decide_eq_true hi
        clear hi
        go_wp2
        go_ret
        exact ⟨rfl, hkc9.below⟩
      · obtain ⟨k, rfl, hk⟩ := hi
        have g1 : decide ((k : Int) < 0) = false := decide_eq_false (by omega)
        have g2 : decide ((XL.length : Int) ≤ (k : Int)) = true := decide_eq_true (by omega)
        have g2n : decide (XL.length ≤ k) = true := decide_eq_true hk
        clear hk
        go_wp2
        go_ret
        exact ⟨rfl, hkc9.below⟩
      · subst hk
        have hkl : k < XL.length := (List.getElem?_eq_some_iff.1 hx).1
        have g1 : decide ((k : Int) < 0) = false := decide_eq_false (by omega)
        have g2 : decide ((XL.length : Int) ≤ (k : Int)) = false := decide_eq_false (by omega)
        have g2n : decide (XL.length ≤ k) = false := decide_eq_false (by omega)
        obtain ⟨gx, ox, rfl, hgx, c1, c2⟩ := hX18.out.fa k _ hx
        obtain ⟨hn1, hv1⟩ := lF x (List.mem_of_getElem? hx)
        have hvl := (lX.2 _ (List.mem_of_getElem? hx)).2
        obtain ⟨p, q⟩ := x
        dsimp only at c1 c2 hn1 hv1 hvl
        have cn := fun w1 => c_Name p w1
        have cv := fun w1 => c_Value q (by omega) w1
        rw [hn1] at cn
        rw [hv1] at cv
        clear hx hn1 hv1 hvl
        go_wp2_with fail
        refine (cn w9).mono ?_
        rintro e wn ⟨rfl, hbn⟩
        have hkn := hkc9.step hbn
        have c1n := (hbn.cell (p := ⟨gx, ox + k * 2, none⟩) hgx).trans c1
        have c2n := (hbn.cell (p := ⟨gx, ox + k * 2 + 1, none⟩) hgx).trans c2
        go_wp2_with fail
        refine (cv wn).mono ?_
        rintro e wv ⟨rfl, hbv⟩
        have hkv := hkn.step hbv
        go_wp2
        go_ret
        exact ⟨rfl, hkv.below⟩

set_option maxHeartbeats 8000000 in
set_option maxRecDepth 100000 in
theorem hp_one (a b : List UInt8) (i : Int) (w : World) (hG : Good w) (h_a : a.length ≤ 300) (h_b : b.length ≤ 300) (XL : List Fld) (ha : parseHd a = (XL, true)) (YL : List Fld) (hb : parseHd b = (YL, false)) (hi : i < 0 ∨ (∃ k : Nat, i = k ∧ XL.length ≤ k) ∨ ∃ k : Nat, i = k ∧ ∃ x, XL[k]? = some x) :
    Calls Tryd.prog 6 #[.string ⟨a.toArray⟩, .string ⟨b.toArray⟩, .int .i64 i] w fun e w' => e = .returned (.bool true) ∧ Below w.heap.size w w' := by
  have cA := fun w1 (hG : Good w1) => head_Parse_any a (by omega) w1 hG
  have cB := fun w1 (hG : Good w1) => head_Parse_any b (by omega) w1 hG
  have lXl : XL.length ≤ 300 := by have := parse_len a; rw [ha] at this; dsimp only at this; omega
  have lYl : YL.length ≤ 300 := by have := parse_len b; rw [hb] at this; dsimp only at this; omega
  have lX : XL.length ≤ 300 ∧ ∀ f ∈ XL, f.1.length ≤ 300 ∧ f.2.length ≤ 300 := ⟨lXl, fun f hf => by
    have := field_len (raw := a) f (by rw [ha]; exact hf)
    omega⟩
  have lF : ∀ f ∈ XL, nameB f.1 = true ∧ valueB f.2 = true := fun f hf => parse_fields (raw := a) f (by rw [ha]; exact hf)
  have lW : (writeL XL).length ≤ 300 * 604 := Nat.le_trans (write_len (m := 300) XL lX.2) (Nat.mul_le_mul_right _ lX.1)
  have cS := fun w1 (hG : Good w1) => head_Parse_any (writeL XL) (by omega) w1 hG
  rw [parse_write XL lF] at cS
  have hab : (⟨a.toArray⟩ ++ ⟨b.toArray⟩ : ByteArray) = ⟨(a ++ b).toArray⟩ := toList_inj (by simp [ByteArray.data_append])
  have cAB := fun w1 (hG : Good w1) => head_Parse_any (a ++ b) (by rw [List.length_append]; omega) w1 hG
  rw [← hab, parse_app b _ a (Nat.le_refl _) XL ha, hb] at cAB
  rw [if_neg (by simp)] at cAB
  rw [ha] at cA
  rw [hb] at cB
  dsimp only at cA cB cS cAB
  clear hab
  obtain ⟨M, eqM⟩ : ∃ M : List Fld, M = XL ++ YL := ⟨_, rfl⟩
  have lM : M.length ≤ 600 := by rw [eqM, List.length_append]; omega
  have cUM := fun ao ca bo cb w1 hU hM => head_Same_any ao ca ([] : List Fld) bo cb M (by decide) (by omega) w1 (Flds.fa (cap := ca) hU) (Flds.fa (cap := cb) hM)
  have cZX := fun ao ca bo cb w1 hZ hX => head_Same_any ao ca XL bo cb XL (by omega) (by omega) w1 (Flds.fa (cap := ca) hZ) (Flds.fa (cap := cb) hX)
  rw [beq_self_eq_true] at cZX
  generalize (([] : List Fld) == M) = um at *
  have eqMh := Lib.hid eqM
  clear eqM ha hb
  have d_a : decide ((300 : Int) < (a.length : Int)) = false := decide_eq_false (by omega)
  have e_a : decide (300 < a.length) = false := decide_eq_false (by omega)
  have d_b : decide ((300 : Int) < (b.length : Int)) = false := decide_eq_false (by omega)
  have e_b : decide (300 < b.length) = false := decide_eq_false (by omega)
  have hsum : a.length + b.length ≤ 9223372036854775807 := by omega
  have hk0 := Ok.refl hG
  go_enter Tryd.func6, Tryd.ntmps6
  go_wp2_with fail
  refine (awake13 w hk0.good).mono ?_
  rintro e w1 ⟨rfl, hb1⟩
  have hkc1 := hk0.step hb1
  go_wp2_with fail
  refine (cA w1 hkc1.good).mono ?_
  rintro e w2 ⟨v2, rfl, ho2, hb2⟩
  have hkc2 := hkc1.step hb2
  have hXn := flds_here ho2
  obtain ⟨aoX, caX, rfl⟩ := hXn.shape
  have hX0 := Lib.hid hXn
  clear hXn ho2
  go_wp2_with fail
  refine (cB w2 hkc2.good).mono ?_
  rintro e w3 ⟨v3, rfl, ho3, hb3⟩
  have hkc3 := hkc2.step hb3
  have hX1 := Lib.hid ((hX0.out.below hb3).mono hb3.size)
  clear hX0
  have hYn := flds_here ho3
  obtain ⟨aoY, caY, rfl⟩ := hYn.shape
  have hY0 := Lib.hid hYn
  clear hYn ho3
  go_wp2
  go_loopw [12, 13] (fun s i wr => ∃ k : Nat, ∃ S : ByteArray, s = .string S ∧ i = .int .i64 k ∧ k ≤ XL.length ∧ S.size ≤ 400000 ∧ Hid (S.data.toList = writeL (XL.take k)) ∧ Below w3.heap.size w3 wr) (fun _ i _ => XL.length - (intOf i).toNat)
  case atStart => exact ⟨0, ⟨#[]⟩, rfl, rfl, Nat.zero_le _, by decide, rfl, Below.refl _ _⟩
  case round =>
    obtain ⟨k, S, rfl, rfl, hk, hS, hw, hbl⟩ := hrel
    by_cases hlt : k < XL.length
    · obtain ⟨x, hx⟩ : ∃ x, XL[k]? = some x := ⟨_, List.getElem?_eq_getElem hlt⟩
      obtain ⟨gx, ox, rfl, hgx, a1, a2⟩ := hX1.out.fa k _ hx
      have c1 := (hbl.cell (p := ⟨gx, ox + k * 2, none⟩) hgx).trans a1
      have c2 := (hbl.cell (p := ⟨gx, ox + k * 2 + 1, none⟩) hgx).trans a2
      have hst := write_step hx
      have hln : (writeL (XL.take (k + 1))).length ≤ 300 * 604 := by
        have h1 := write_len (m := 300) (XL.take (k + 1)) (fun f hf => lX.2 f (List.mem_of_mem_take hf))
        have h2 : (XL.take (k + 1)).length ≤ 300 := Nat.le_trans (by rw [List.length_take]; omega) lX.1
        exact Nat.le_trans h1 (Nat.mul_le_mul_right _ h2)
      obtain ⟨p, q⟩ := x
      dsimp only at c1 c2 hst
      have hnew : (S ++ ⟨p.toArray⟩ ++ ⟨#[58, 32]⟩ ++ ⟨q.toArray⟩ ++ ⟨#[13, 10]⟩ : ByteArray).data.toList = writeL (XL.take (k + 1)) := by
        rw [hst, ← hw.out]
        simp [ByteArray.data_append, lineF]
      have hsz : (S ++ ⟨p.toArray⟩ ++ ⟨#[58, 32]⟩ ++ ⟨q.toArray⟩ ++ ⟨#[13, 10]⟩ : ByteArray).size ≤ 400000 := by rw [size_list, hnew]; omega
      have hp : p.length ≤ 300 := (lX.2 _ (List.mem_of_getElem? hx)).1
      have hq : q.length ≤ 300 := (lX.2 _ (List.mem_of_getElem? hx)).2
      have HN := Lib.hid hnew
      have HZ := Lib.hid hsz
      clear hnew hsz hst hln hx a1 a2 hw
      go_wp2
      go_big_region
      go_wp2
      refine ⟨⟨k + 1, _, rfl, by go_num, hlt, HZ.out, HN.out, hbl.drew⟩, by simp [intOf]; omega⟩
    · obtain rfl : k = XL.length := by omega
      have hSw : S = ⟨(writeL XL).toArray⟩ := toList_inj (by rw [mk_toList, hw.out, List.take_length])
      have HSW := Lib.hid hSw
      clear hw hSw
      have hkL := hkc3.step hbl
      have hX2 := Lib.hid ((hX1.out.below hbl).mono hbl.size)
      clear hX1
      have hY3 := Lib.hid ((hY0.out.below hbl).mono hbl.size)
      clear hY0
      rw [← HSW.out] at cS
      go_wp2_with fail
      refine (cS wr hkL.good).mono ?_
      rintro e w4 ⟨v4, rfl, ho4, hb4⟩
      have hkc4 := hkL.step hb4
      have hX4 := Lib.hid ((hX2.out.below hb4).mono hb4.size)
      clear hX2
      have hY5 := Lib.hid ((hY3.out.below hb4).mono hb4.size)
      clear hY3
      have hZn := flds_here ho4
      obtain ⟨aoZ, caZ, rfl⟩ := hZn.shape
      have hZ0 := Lib.hid hZn
      clear hZn ho4
      go_wp2_with fail
      refine (cAB w4 hkc4.good).mono ?_
      rintro e w5 ⟨v5, rfl, ho5, hb5⟩
      have hkc5 := hkc4.step hb5
      have hX6 := Lib.hid ((hX4.out.below hb5).mono hb5.size)
      clear hX4
      have hY7 := Lib.hid ((hY5.out.below hb5).mono hb5.size)
      clear hY5
      have hZ8 := Lib.hid ((hZ0.out.below hb5).mono hb5.size)
      clear hZ0
      have hUn := flds_here ho5
      obtain ⟨aoU, caU, rfl⟩ := hUn.shape
      have hU0 := Lib.hid hUn
      clear hUn ho5
      go_wp2_with (at_builtin; refine wpList_appendFs rfl _ _ rfl (w5.heap.size) w5 _ ([]) (XL) _ (by rfl) (by rfl) hX6.out (World.ownsRow_nil _ _ _ _) (Nat.le_refl _) (by simp only [List.length_nil, List.length_append]; omega) ?_)
      intro v6 w6 ho6 hp6
      have hq6 := hp6
      go_wp2_with (at_builtin; refine wpList_appendFs rfl _ _ rfl (w5.heap.size) w6 _ ([] ++ XL) (YL) _ (by rfl) (by rfl) ((hY7.out.below hq6).mono hq6.size) ho6 hq6.size (by simp only [List.length_nil, List.length_append]; omega) ?_)
      intro v7 w7 ho7 hp7
      have hq7 := hq6.trans hp7
      have hkc7 := hkc5.step hq7
      have hX9 := Lib.hid ((hX6.out.below hq7).mono hq7.size)
      clear hX6
      have hY10 := Lib.hid ((hY7.out.below hq7).mono hq7.size)
      clear hY7
      have hZ11 := Lib.hid ((hZ8.out.below hq7).mono hq7.size)
      clear hZ8
      have hU12 := Lib.hid ((hU0.out.below hq7).mono hq7.size)
      clear hU0
      have hr7 : w7.ownsRow (w5.heap.size) 42 2 v7 (XL ++ YL).length (flds (XL ++ YL)) := by simpa using ho7
      rw [← eqMh.out] at hr7
      have hMn := flds_here hr7
      obtain ⟨aoM, caM, rfl⟩ := hMn.shape
      have hM0 := Lib.hid hMn
      clear hMn ho7 hr7
      go_wp2_with fail
      refine (cUM _ _ _ _ w7 hU12.out hM0.out).mono ?_
      rintro e w8 ⟨rfl, hb8⟩
      have hkc8 := hkc7.step hb8
      have hX13 := Lib.hid ((hX9.out.below hb8).mono hb8.size)
      clear hX9
      have hY14 := Lib.hid ((hY10.out.below hb8).mono hb8.size)
      clear hY10
      have hZ15 := Lib.hid ((hZ11.out.below hb8).mono hb8.size)
      clear hZ11
      have hU16 := Lib.hid ((hU12.out.below hb8).mono hb8.size)
      clear hU12
      have hM17 := Lib.hid ((hM0.out.below hb8).mono hb8.size)
      clear hM0
      go_wp2_with fail
      refine (cZX _ _ _ _ w8 hZ15.out hX13.out).mono ?_
      rintro e w9 ⟨rfl, hb9⟩
      have hkc9 := hkc8.step hb9
      have hX18 := Lib.hid ((hX13.out.below hb9).mono hb9.size)
      clear hX13
      have hY19 := Lib.hid ((hY14.out.below hb9).mono hb9.size)
      clear hY14
      have hZ20 := Lib.hid ((hZ15.out.below hb9).mono hb9.size)
      clear hZ15
      have hU21 := Lib.hid ((hU16.out.below hb9).mono hb9.size)
      clear hU16
      have hM22 := Lib.hid ((hM17.out.below hb9).mono hb9.size)
      clear hM17
      rcases hi with hi | hi | ⟨k, hk, x, hx⟩
      · have g1 : decide (i < 0) = true := decide_eq_true hi
        clear hi
        go_wp2
        go_ret
        exact ⟨rfl, hkc9.below⟩
      · obtain ⟨k, rfl, hk⟩ := hi
        have g1 : decide ((k : Int) < 0) = false := decide_eq_false (by omega)
        have g2 : decide ((XL.length : Int) ≤ (k : Int)) = true := decide_eq_true (by omega)
        have g2n : decide (XL.length ≤ k) = true := decide_eq_true hk
        clear hk
        go_wp2
        go_ret
        exact ⟨rfl, hkc9.below⟩
      · subst hk
        have hkl : k < XL.length := (List.getElem?_eq_some_iff.1 hx).1
        have g1 : decide ((k : Int) < 0) = false := decide_eq_false (by omega)
        have g2 : decide ((XL.length : Int) ≤ (k : Int)) = false := decide_eq_false (by omega)
        have g2n : decide (XL.length ≤ k) = false := decide_eq_false (by omega)
        obtain ⟨gx, ox, rfl, hgx, c1, c2⟩ := hX18.out.fa k _ hx
        obtain ⟨hn1, hv1⟩ := lF x (List.mem_of_getElem? hx)
        have hvl := (lX.2 _ (List.mem_of_getElem? hx)).2
        obtain ⟨p, q⟩ := x
        dsimp only at c1 c2 hn1 hv1 hvl
        have cn := fun w1 => c_Name p w1
        have cv := fun w1 => c_Value q (by omega) w1
        rw [hn1] at cn
        rw [hv1] at cv
        clear hx hn1 hv1 hvl
        go_wp2_with fail
        refine (cn w9).mono ?_
        rintro e wn ⟨rfl, hbn⟩
        have hkn := hkc9.step hbn
        have c1n := (hbn.cell (p := ⟨gx, ox + k * 2, none⟩) hgx).trans c1
        have c2n := (hbn.cell (p := ⟨gx, ox + k * 2 + 1, none⟩) hgx).trans c2
        go_wp2_with fail
        refine (cv wn).mono ?_
        rintro e wv ⟨rfl, hbv⟩
        have hkv := hkn.step hbv
        go_wp2
        go_ret
        exact ⟨rfl, hkv.below⟩

theorem law_HeadParse (a0 b0 : ByteArray) (i : Int) (_b0 : a0.size ≤ 140737488351232) (_b1 : b0.size ≤ 140737488351232) (_hi : (Lit.int .i64 i).wf = true) (w : World) (hG : Good w) :
    Calls Tryd.prog 6 #[.string a0, .string b0, .int .i64 i] w fun e w' => e = .returned (.bool true) ∧ Below w.heap.size w w' := by
  obtain ⟨a, rfl⟩ : ∃ l : List UInt8, a0 = ⟨l.toArray⟩ := ⟨a0.data.toList, rfl⟩
  obtain ⟨b, rfl⟩ : ∃ l : List UInt8, b0 = ⟨l.toArray⟩ := ⟨b0.data.toList, rfl⟩
  rcases Nat.lt_or_ge 300 a.length with h_a | h_a
  · exact hp_long_a a b i w hG h_a
  · rcases Nat.lt_or_ge 300 b.length with h_b | h_b
    · exact hp_long_b a b i w hG h_a h_b
    · cases ha : (parseHd a).2
      · exact hp_no a b i w hG h_a h_b (parse_no ha)
      · have hi : i < 0 ∨ (∃ k : Nat, i = k ∧ (parseHd a).1.length ≤ k) ∨ ∃ k : Nat, i = k ∧ ∃ x, (parseHd a).1[k]? = some x := by
          rcases Int.lt_or_le i 0 with h | h
          · exact .inl h
          · obtain ⟨k, rfl⟩ : ∃ k : Nat, i = k := ⟨i.toNat, by omega⟩
            rcases Nat.lt_or_ge k (parseHd a).1.length with hk | hk
            · exact .inr (.inr ⟨k, rfl, _, List.getElem?_eq_getElem hk⟩)
            · exact .inr (.inl ⟨k, rfl, hk⟩)
        cases hb : (parseHd b).2
        · exact hp_one a b i w hG h_a h_b _ (Prod.ext rfl ha) _ (Prod.ext rfl hb) hi
        · exact hp_two a b i w hG h_a h_b _ (Prod.ext rfl ha) _ (Prod.ext rfl hb) hi

end Go.Proofs.YtgbjofahmkeapaaDoor
