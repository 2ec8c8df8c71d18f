/- The law HeadName: names and values by their bytes, and the walk. -/
import Derived.Test.YtgbjofahmkeapaaDoorLaw13
import Derived.Test.YtgbjofahmkeapaaDoorHeadS
namespace Go.Proofs.YtgbjofahmkeapaaDoor
open Go.RowKit Go.Proofs.YtgbjofahmkeapaaDoorW.PrintWords

theorem nm_low (c : UInt8) : nmC set_head (lowC c) = nmC set_head c := by
  have key : ∀ n : Nat, n < 256 → nmC set_head (lowC (UInt8.ofNat n)) = nmC set_head (UInt8.ofNat n) := by decide +kernel
  have := key c.toNat c.toNat_lt
  rwa [UInt8.ofNat_toNat] at this
theorem name_low (l : List UInt8) : nameB (lowL l) = nameB l := by
  unfold nameB lowL
  congr 1
  · cases l <;> rfl
  · rw [List.all_map]
    congr 1
    funext c
    exact nm_low c
theorem nm_byte {c : UInt8} (h : nmC set_head c = true) : 32 < c.toNat ∧ c.toNat < 127 ∧ c.toNat ≠ 58 ∧ c.toNat ≠ 44 := by
  have key : ∀ n : Nat, n < 256 → nmC set_head (UInt8.ofNat n) = true → 32 < n ∧ n < 127 ∧ n ≠ 58 ∧ n ≠ 44 := by decide +kernel
  exact key c.toNat c.toNat_lt (by rw [UInt8.ofNat_toNat]; exact h)
theorem name_byte {l : List UInt8} (h : nameB l = true) {i : Nat} {c : UInt8} (hc : l[i]? = some c) : 32 < c.toNat ∧ c.toNat < 127 ∧ c.toNat ≠ 58 ∧ c.toNat ≠ 44 := by
  unfold nameB at h
  rw [Bool.and_eq_true] at h
  exact nm_byte (List.all_eq_true.1 h.2 c (List.mem_of_getElem? hc))
theorem value_byte {l : List UInt8} (h : valueB l = true) {i : Nat} {c : UInt8} (hc : l[i]? = some c) : c.toNat ≠ 10 ∧ c.toNat ≠ 13 ∧ c.toNat ≠ 0 ∧ (c.toNat = 32 → 0 < i ∧ i + 1 < l.length) := by
  have hm := List.mem_of_getElem? hc
  have he : endC c = false := by
    rw [Bool.eq_false_iff]; intro e
    rw [value_end hm e] at h; exact absurd h (by decide)
  obtain ⟨e0, e1, e2⟩ := end_not he
  have hlt := (List.getElem?_eq_some_iff.1 hc).1
  have hce := (List.getElem?_eq_some_iff.1 hc).2
  refine ⟨e1, e2, e0, fun h32 => ?_⟩
  have hb : blC c = true := by
    obtain rfl : c = 32 := UInt8.toNat_inj.1 h32
    decide
  constructor
  · rcases Nat.eq_zero_or_pos i with rfl | hp
    · exfalso
      cases l with
      | nil => simp at hc
      | cons d t =>
        obtain rfl : d = c := by simpa using hc
        rw [value_first hb] at h; exact absurd h (by decide)
    · exact hp
  · rcases Nat.lt_or_ge (i + 1) l.length with hp | hp
    · exact hp
    · exfalso
      have hl : l = l.take i ++ [c] := by
        conv => lhs; rw [← List.take_append_drop i l]
        congr 1
        rw [List.drop_eq_getElem_cons hlt, hce, List.drop_eq_nil_of_le (by omega)]
      rw [hl, value_last hb] at h
      exact absurd h (by decide)


-- the parts of the walk behind awake: nb: is s a name; xs: does the index point into s; xv: does it point into v; vb: is v a value; sp: is its byte there a blank

set_option maxHeartbeats 8000000 in
set_option maxRecDepth 100000 in
theorem name_walk_f_neg_none (s v : ByteArray) (i : Int) (hs : s.size ≤ 300) (hv : v.size ≤ 300) (w : World) (hG : Good w) (hnb : nameB s.data.toList = false) (hi : i < 0) :
    Calls Tryd.prog 8 #[.string s, .string v, .int .i64 i] w fun e w' => e = .returned (.bool true) ∧ Below w.heap.size w w' := by
  have d0 : decide ((300 : Int) < (s.size : Int)) = false := decide_eq_false (by omega)
  have d1 : decide ((300 : Int) < (v.size : Int)) = false := decide_eq_false (by omega)
  have hsl := Lib.hid (size_list s)
  have hvl := Lib.hid (size_list v)
  have cL := fun w1 => ascii_Lower_any s (by omega) w1
  have cN' := fun w1 => head_Name_any ⟨(lowL s.data.toList).toArray⟩ w1
  rw [mk_toList, name_low] at cN'
  have cN := fun w1 => head_Name_any s w1
  have cV := fun w1 => head_Value_any v (by omega) w1
  generalize (⟨(lowL s.data.toList).toArray⟩ : ByteArray) = ls at *
  rw [hnb] at cN cN'
  have g0 : decide ((0 : Int) ≤ i) = false := decide_eq_false (by omega)
  have g1 : decide (i < 0) = true := decide_eq_true hi
  have hk0 := Ok.refl hG
  go_enter Tryd.func8, Tryd.ntmps8
  go_wp2_with fail
  refine (awake13 w hk0.good).mono ?_
  rintro e w1 ⟨rfl, hb1⟩
  have hkc1 := hk0.step hb1
  go_wp2_with fail
  refine (cL w1).mono ?_
  rintro e w2 ⟨rfl, hb2⟩
  have hkc2 := hkc1.step hb2
  go_wp2_with fail
  refine (cN' w2).mono ?_
  rintro e w3 ⟨rfl, hb3⟩
  have hkc3 := hkc2.step hb3
  go_wp2_with fail
  refine (cN w3).mono ?_
  rintro e w4 ⟨rfl, hb4⟩
  have hkc4 := hkc3.step hb4
  go_wp2_with fail
  refine (cN w4).mono ?_
  rintro e w5 ⟨rfl, hb5⟩
  have hkc5 := hkc4.step hb5
  go_wp2
  go_ret
  exact ⟨rfl, hkc5.below⟩

set_option maxHeartbeats 8000000 in
set_option maxRecDepth 100000 in
theorem name_walk_f_in0_outv (s v : ByteArray) (i : Int) (hs : s.size ≤ 300) (hv : v.size ≤ 300) (w : World) (hG : Good w) (hnb : nameB s.data.toList = false) (k : Nat) (hk : i = k) (c : UInt8) (hc : s.data.toList[k]? = some c) (hkv : v.size ≤ k) :
    Calls Tryd.prog 8 #[.string s, .string v, .int .i64 i] w fun e w' => e = .returned (.bool true) ∧ Below w.heap.size w w' := by
  have d0 : decide ((300 : Int) < (s.size : Int)) = false := decide_eq_false (by omega)
  have d1 : decide ((300 : Int) < (v.size : Int)) = false := decide_eq_false (by omega)
  have hsl := Lib.hid (size_list s)
  have hvl := Lib.hid (size_list v)
  have cL := fun w1 => ascii_Lower_any s (by omega) w1
  have cN' := fun w1 => head_Name_any ⟨(lowL s.data.toList).toArray⟩ w1
  rw [mk_toList, name_low] at cN'
  have cN := fun w1 => head_Name_any s w1
  have cV := fun w1 => head_Value_any v (by omega) w1
  generalize (⟨(lowL s.data.toList).toArray⟩ : ByteArray) = ls at *
  rw [hnb] at cN cN'
  subst hk
  have g0 : decide ((0 : Int) ≤ (k : Int)) = true := decide_eq_true (by omega)
  have g1 : decide ((k : Int) < 0) = false := decide_eq_false (by omega)
  have hkl : k < s.data.toList.length := (List.getElem?_eq_some_iff.1 hc).1
  have hks : k < s.size := by have := hsl.out; omega
  have g2 : decide ((k : Int) < (s.size : Int)) = true := decide_eq_true (by omega)
  have g2n : decide (k < s.size) = true := decide_eq_true (by omega)
  clear hc hkl
  have g3 : decide ((v.size : Int) ≤ (k : Int)) = true := decide_eq_true (by omega)
  have g3n : decide (v.size ≤ k) = true := decide_eq_true (by omega)
  clear hkv
  have hk0 := Ok.refl hG
  go_enter Tryd.func8, Tryd.ntmps8
  go_wp2_with fail
  refine (awake13 w hk0.good).mono ?_
  rintro e w1 ⟨rfl, hb1⟩
  have hkc1 := hk0.step hb1
  go_wp2_with fail
  refine (cL w1).mono ?_
  rintro e w2 ⟨rfl, hb2⟩
  have hkc2 := hkc1.step hb2
  go_wp2_with fail
  refine (cN' w2).mono ?_
  rintro e w3 ⟨rfl, hb3⟩
  have hkc3 := hkc2.step hb3
  go_wp2_with fail
  refine (cN w3).mono ?_
  rintro e w4 ⟨rfl, hb4⟩
  have hkc4 := hkc3.step hb4
  go_wp2_with fail
  refine (cN w4).mono ?_
  rintro e w5 ⟨rfl, hb5⟩
  have hkc5 := hkc4.step hb5
  go_wp2_with fail
  refine (cN w5).mono ?_
  rintro e w6 ⟨rfl, hb6⟩
  have hkc6 := hkc5.step hb6
  go_wp2
  go_ret
  exact ⟨rfl, hkc6.below⟩

set_option maxHeartbeats 8000000 in
set_option maxRecDepth 100000 in
theorem name_walk_f_in0_vno (s v : ByteArray) (i : Int) (hs : s.size ≤ 300) (hv : v.size ≤ 300) (w : World) (hG : Good w) (hnb : nameB s.data.toList = false) (k : Nat) (hk : i = k) (c : UInt8) (hc : s.data.toList[k]? = some c) (y : UInt8) (hy : v.data.toList[k]? = some y) (hvb : valueB v.data.toList = false) :
    Calls Tryd.prog 8 #[.string s, .string v, .int .i64 i] w fun e w' => e = .returned (.bool true) ∧ Below w.heap.size w w' := by
  have d0 : decide ((300 : Int) < (s.size : Int)) = false := decide_eq_false (by omega)
  have d1 : decide ((300 : Int) < (v.size : Int)) = false := decide_eq_false (by omega)
  have hsl := Lib.hid (size_list s)
  have hvl := Lib.hid (size_list v)
  have cL := fun w1 => ascii_Lower_any s (by omega) w1
  have cN' := fun w1 => head_Name_any ⟨(lowL s.data.toList).toArray⟩ w1
  rw [mk_toList, name_low] at cN'
  have cN := fun w1 => head_Name_any s w1
  have cV := fun w1 => head_Value_any v (by omega) w1
  generalize (⟨(lowL s.data.toList).toArray⟩ : ByteArray) = ls at *
  rw [hnb] at cN cN'
  subst hk
  have g0 : decide ((0 : Int) ≤ (k : Int)) = true := decide_eq_true (by omega)
  have g1 : decide ((k : Int) < 0) = false := decide_eq_false (by omega)
  have hkl : k < s.data.toList.length := (List.getElem?_eq_some_iff.1 hc).1
  have hks : k < s.size := by have := hsl.out; omega
  have g2 : decide ((k : Int) < (s.size : Int)) = true := decide_eq_true (by omega)
  have g2n : decide (k < s.size) = true := decide_eq_true (by omega)
  clear hc hkl
  have hkv : k < v.data.toList.length := (List.getElem?_eq_some_iff.1 hy).1
  have hkw : k < v.size := by have := hvl.out; omega
  have g3 : decide ((v.size : Int) ≤ (k : Int)) = false := decide_eq_false (by omega)
  have g3n : decide (v.size ≤ k) = false := decide_eq_false (by omega)
  rw [hvb] at cV
  clear hy hvb
  have hk0 := Ok.refl hG
  go_enter Tryd.func8, Tryd.ntmps8
  go_wp2_with fail
  refine (awake13 w hk0.good).mono ?_
  rintro e w1 ⟨rfl, hb1⟩
  have hkc1 := hk0.step hb1
  go_wp2_with fail
  refine (cL w1).mono ?_
  rintro e w2 ⟨rfl, hb2⟩
  have hkc2 := hkc1.step hb2
  go_wp2_with fail
  refine (cN' w2).mono ?_
  rintro e w3 ⟨rfl, hb3⟩
  have hkc3 := hkc2.step hb3
  go_wp2_with fail
  refine (cN w3).mono ?_
  rintro e w4 ⟨rfl, hb4⟩
  have hkc4 := hkc3.step hb4
  go_wp2_with fail
  refine (cN w4).mono ?_
  rintro e w5 ⟨rfl, hb5⟩
  have hkc5 := hkc4.step hb5
  go_wp2_with fail
  refine (cN w5).mono ?_
  rintro e w6 ⟨rfl, hb6⟩
  have hkc6 := hkc5.step hb6
  go_wp2_with fail
  refine (cV w6).mono ?_
  rintro e w7 ⟨rfl, hb7⟩
  have hkc7 := hkc6.step hb7
  go_wp2
  go_ret
  exact ⟨rfl, hkc7.below⟩

set_option maxHeartbeats 8000000 in
set_option maxRecDepth 100000 in
theorem name_walk_f_in0_vok (s v : ByteArray) (i : Int) (hs : s.size ≤ 300) (hv : v.size ≤ 300) (w : World) (hG : Good w) (hnb : nameB s.data.toList = false) (k : Nat) (hk : i = k) (c : UInt8) (hc : s.data.toList[k]? = some c) (y : UInt8) (hy : v.data.toList[k]? = some y) (hvb : valueB v.data.toList = true) (hyb : y.toNat ≠ 10 ∧ y.toNat ≠ 13 ∧ y.toNat ≠ 0) (h32 : y.toNat ≠ 32) :
    Calls Tryd.prog 8 #[.string s, .string v, .int .i64 i] w fun e w' => e = .returned (.bool true) ∧ Below w.heap.size w w' := by
  have d0 : decide ((300 : Int) < (s.size : Int)) = false := decide_eq_false (by omega)
  have d1 : decide ((300 : Int) < (v.size : Int)) = false := decide_eq_false (by omega)
  have hsl := Lib.hid (size_list s)
  have hvl := Lib.hid (size_list v)
  have cL := fun w1 => ascii_Lower_any s (by omega) w1
  have cN' := fun w1 => head_Name_any ⟨(lowL s.data.toList).toArray⟩ w1
  rw [mk_toList, name_low] at cN'
  have cN := fun w1 => head_Name_any s w1
  have cV := fun w1 => head_Value_any v (by omega) w1
  generalize (⟨(lowL s.data.toList).toArray⟩ : ByteArray) = ls at *
  rw [hnb] at cN cN'
  subst hk
  have g0 : decide ((0 : Int) ≤ (k : Int)) = true := decide_eq_true (by omega)
  have g1 : decide ((k : Int) < 0) = false := decide_eq_false (by omega)
  have hkl : k < s.data.toList.length := (List.getElem?_eq_some_iff.1 hc).1
  have hks : k < s.size := by have := hsl.out; omega
  have g2 : decide ((k : Int) < (s.size : Int)) = true := decide_eq_true (by omega)
  have g2n : decide (k < s.size) = true := decide_eq_true (by omega)
  clear hc hkl
  have hkv : k < v.data.toList.length := (List.getElem?_eq_some_iff.1 hy).1
  have hkw : k < v.size := by have := hvl.out; omega
  have g3 : decide ((v.size : Int) ≤ (k : Int)) = false := decide_eq_false (by omega)
  have g3n : decide (v.size ≤ k) = false := decide_eq_false (by omega)
  rw [hvb] at cV
  have hgv : v[k]'hkw = y := get_cons (l := v.data.toList.drop (k + 1)) (by rw [List.drop_eq_getElem_cons hkv, (List.getElem?_eq_some_iff.1 hy).2]) _
  obtain ⟨z0, z1, z2⟩ := hyb
  have f0 : ((y.toNat : Int) != 10) = true := bne_iff_ne.2 (by omega)
  have f1 : ((y.toNat : Int) != 13) = true := bne_iff_ne.2 (by omega)
  have f2 : ((y.toNat : Int) != 0) = true := bne_iff_ne.2 (by omega)
  have f3 : ((y.toNat : Int) != 32) = true := bne_iff_ne.2 (by omega)
  clear z0 z1 z2 h32
  clear hy hvb
  have hk0 := Ok.refl hG
  go_enter Tryd.func8, Tryd.ntmps8
  go_wp2_with fail
  refine (awake13 w hk0.good).mono ?_
  rintro e w1 ⟨rfl, hb1⟩
  have hkc1 := hk0.step hb1
  go_wp2_with fail
  refine (cL w1).mono ?_
  rintro e w2 ⟨rfl, hb2⟩
  have hkc2 := hkc1.step hb2
  go_wp2_with fail
  refine (cN' w2).mono ?_
  rintro e w3 ⟨rfl, hb3⟩
  have hkc3 := hkc2.step hb3
  go_wp2_with fail
  refine (cN w3).mono ?_
  rintro e w4 ⟨rfl, hb4⟩
  have hkc4 := hkc3.step hb4
  go_wp2_with fail
  refine (cN w4).mono ?_
  rintro e w5 ⟨rfl, hb5⟩
  have hkc5 := hkc4.step hb5
  go_wp2_with fail
  refine (cN w5).mono ?_
  rintro e w6 ⟨rfl, hb6⟩
  have hkc6 := hkc5.step hb6
  go_wp2_with fail
  refine (cV w6).mono ?_
  rintro e w7 ⟨rfl, hb7⟩
  have hkc7 := hkc6.step hb7
  go_wp2
  go_ret
  exact ⟨rfl, hkc7.below⟩

set_option maxHeartbeats 8000000 in
set_option maxRecDepth 100000 in
theorem name_walk_f_in0_vsp (s v : ByteArray) (i : Int) (hs : s.size ≤ 300) (hv : v.size ≤ 300) (w : World) (hG : Good w) (hnb : nameB s.data.toList = false) (k : Nat) (hk : i = k) (c : UInt8) (hc : s.data.toList[k]? = some c) (y : UInt8) (hy : v.data.toList[k]? = some y) (hvb : valueB v.data.toList = true) (hyb : y.toNat ≠ 10 ∧ y.toNat ≠ 13 ∧ y.toNat ≠ 0) (h32 : y.toNat = 32) (hp : 0 < k ∧ k + 1 < v.size) :
    Calls Tryd.prog 8 #[.string s, .string v, .int .i64 i] w fun e w' => e = .returned (.bool true) ∧ Below w.heap.size w w' := by
  have d0 : decide ((300 : Int) < (s.size : Int)) = false := decide_eq_false (by omega)
  have d1 : decide ((300 : Int) < (v.size : Int)) = false := decide_eq_false (by omega)
  have hsl := Lib.hid (size_list s)
  have hvl := Lib.hid (size_list v)
  have cL := fun w1 => ascii_Lower_any s (by omega) w1
  have cN' := fun w1 => head_Name_any ⟨(lowL s.data.toList).toArray⟩ w1
  rw [mk_toList, name_low] at cN'
  have cN := fun w1 => head_Name_any s w1
  have cV := fun w1 => head_Value_any v (by omega) w1
  generalize (⟨(lowL s.data.toList).toArray⟩ : ByteArray) = ls at *
  rw [hnb] at cN cN'
  subst hk
  have g0 : decide ((0 : Int) ≤ (k : Int)) = true := decide_eq_true (by omega)
  have g1 : decide ((k : Int) < 0) = false := decide_eq_false (by omega)
  have hkl : k < s.data.toList.length := (List.getElem?_eq_some_iff.1 hc).1
  have hks : k < s.size := by have := hsl.out; omega
  have g2 : decide ((k : Int) < (s.size : Int)) = true := decide_eq_true (by omega)
  have g2n : decide (k < s.size) = true := decide_eq_true (by omega)
  clear hc hkl
  have hkv : k < v.data.toList.length := (List.getElem?_eq_some_iff.1 hy).1
  have hkw : k < v.size := by have := hvl.out; omega
  have g3 : decide ((v.size : Int) ≤ (k : Int)) = false := decide_eq_false (by omega)
  have g3n : decide (v.size ≤ k) = false := decide_eq_false (by omega)
  rw [hvb] at cV
  have hgv : v[k]'hkw = y := get_cons (l := v.data.toList.drop (k + 1)) (by rw [List.drop_eq_getElem_cons hkv, (List.getElem?_eq_some_iff.1 hy).2]) _
  obtain ⟨z0, z1, z2⟩ := hyb
  have f0 : ((y.toNat : Int) != 10) = true := bne_iff_ne.2 (by omega)
  have f1 : ((y.toNat : Int) != 13) = true := bne_iff_ne.2 (by omega)
  have f2 : ((y.toNat : Int) != 0) = true := bne_iff_ne.2 (by omega)
  have f3 : ((y.toNat : Int) != 32) = false := by rw [h32]; rfl
  have f4 : decide ((0 : Int) < (k : Int)) = true := decide_eq_true (by omega)
  have f4n : decide (0 < k) = true := decide_eq_true (by omega)
  have f4p : 0 < k := by omega
  have f5 : decide ((k : Int) < (v.size : Int) - 1) = true := decide_eq_true (by omega)
  have f6 : IntKind.i64.wrap ((v.size : Int) - 1) = (v.size : Int) - 1 := by rw [IntKind.wrap_i64]; omega
  clear z0 z1 z2 h32 hp
  clear hy hvb
  have hk0 := Ok.refl hG
  go_enter Tryd.func8, Tryd.ntmps8
  go_wp2_with fail
  refine (awake13 w hk0.good).mono ?_
  rintro e w1 ⟨rfl, hb1⟩
  have hkc1 := hk0.step hb1
  go_wp2_with fail
  refine (cL w1).mono ?_
  rintro e w2 ⟨rfl, hb2⟩
  have hkc2 := hkc1.step hb2
  go_wp2_with fail
  refine (cN' w2).mono ?_
  rintro e w3 ⟨rfl, hb3⟩
  have hkc3 := hkc2.step hb3
  go_wp2_with fail
  refine (cN w3).mono ?_
  rintro e w4 ⟨rfl, hb4⟩
  have hkc4 := hkc3.step hb4
  go_wp2_with fail
  refine (cN w4).mono ?_
  rintro e w5 ⟨rfl, hb5⟩
  have hkc5 := hkc4.step hb5
  go_wp2_with fail
  refine (cN w5).mono ?_
  rintro e w6 ⟨rfl, hb6⟩
  have hkc6 := hkc5.step hb6
  go_wp2_with fail
  refine (cV w6).mono ?_
  rintro e w7 ⟨rfl, hb7⟩
  have hkc7 := hkc6.step hb7
  go_wp2
  go_ret
  exact ⟨rfl, hkc7.below⟩

set_option maxHeartbeats 8000000 in
set_option maxRecDepth 100000 in
theorem name_walk_f_out0_outv (s v : ByteArray) (i : Int) (hs : s.size ≤ 300) (hv : v.size ≤ 300) (w : World) (hG : Good w) (hnb : nameB s.data.toList = false) (k : Nat) (hk : i = k) (hkl : s.size ≤ k) (hkv : v.size ≤ k) :
    Calls Tryd.prog 8 #[.string s, .string v, .int .i64 i] w fun e w' => e = .returned (.bool true) ∧ Below w.heap.size w w' := by
  have d0 : decide ((300 : Int) < (s.size : Int)) = false := decide_eq_false (by omega)
  have d1 : decide ((300 : Int) < (v.size : Int)) = false := decide_eq_false (by omega)
  have hsl := Lib.hid (size_list s)
  have hvl := Lib.hid (size_list v)
  have cL := fun w1 => ascii_Lower_any s (by omega) w1
  have cN' := fun w1 => head_Name_any ⟨(lowL s.data.toList).toArray⟩ w1
  rw [mk_toList, name_low] at cN'
  have cN := fun w1 => head_Name_any s w1
  have cV := fun w1 => head_Value_any v (by omega) w1
  generalize (⟨(lowL s.data.toList).toArray⟩ : ByteArray) = ls at *
  rw [hnb] at cN cN'
  subst hk
  have g0 : decide ((0 : Int) ≤ (k : Int)) = true := decide_eq_true (by omega)
  have g1 : decide ((k : Int) < 0) = false := decide_eq_false (by omega)
  have g2 : decide ((k : Int) < (s.size : Int)) = false := decide_eq_false (by omega)
  have g2n : decide (k < s.size) = false := decide_eq_false (by omega)
  clear hkl
  have g3 : decide ((v.size : Int) ≤ (k : Int)) = true := decide_eq_true (by omega)
  have g3n : decide (v.size ≤ k) = true := decide_eq_true (by omega)
  clear hkv
  have hk0 := Ok.refl hG
  go_enter Tryd.func8, Tryd.ntmps8
  go_wp2_with fail
  refine (awake13 w hk0.good).mono ?_
  rintro e w1 ⟨rfl, hb1⟩
  have hkc1 := hk0.step hb1
  go_wp2_with fail
  refine (cL w1).mono ?_
  rintro e w2 ⟨rfl, hb2⟩
  have hkc2 := hkc1.step hb2
  go_wp2_with fail
  refine (cN' w2).mono ?_
  rintro e w3 ⟨rfl, hb3⟩
  have hkc3 := hkc2.step hb3
  go_wp2_with fail
  refine (cN w3).mono ?_
  rintro e w4 ⟨rfl, hb4⟩
  have hkc4 := hkc3.step hb4
  go_wp2_with fail
  refine (cN w4).mono ?_
  rintro e w5 ⟨rfl, hb5⟩
  have hkc5 := hkc4.step hb5
  go_wp2
  go_ret
  exact ⟨rfl, hkc5.below⟩

set_option maxHeartbeats 8000000 in
set_option maxRecDepth 100000 in
theorem name_walk_f_out0_vno (s v : ByteArray) (i : Int) (hs : s.size ≤ 300) (hv : v.size ≤ 300) (w : World) (hG : Good w) (hnb : nameB s.data.toList = false) (k : Nat) (hk : i = k) (hkl : s.size ≤ k) (y : UInt8) (hy : v.data.toList[k]? = some y) (hvb : valueB v.data.toList = false) :
    Calls Tryd.prog 8 #[.string s, .string v, .int .i64 i] w fun e w' => e = .returned (.bool true) ∧ Below w.heap.size w w' := by
  have d0 : decide ((300 : Int) < (s.size : Int)) = false := decide_eq_false (by omega)
  have d1 : decide ((300 : Int) < (v.size : Int)) = false := decide_eq_false (by omega)
  have hsl := Lib.hid (size_list s)
  have hvl := Lib.hid (size_list v)
  have cL := fun w1 => ascii_Lower_any s (by omega) w1
  have cN' := fun w1 => head_Name_any ⟨(lowL s.data.toList).toArray⟩ w1
  rw [mk_toList, name_low] at cN'
  have cN := fun w1 => head_Name_any s w1
  have cV := fun w1 => head_Value_any v (by omega) w1
  generalize (⟨(lowL s.data.toList).toArray⟩ : ByteArray) = ls at *
  rw [hnb] at cN cN'
  subst hk
  have g0 : decide ((0 : Int) ≤ (k : Int)) = true := decide_eq_true (by omega)
  have g1 : decide ((k : Int) < 0) = false := decide_eq_false (by omega)
  have g2 : decide ((k : Int) < (s.size : Int)) = false := decide_eq_false (by omega)
  have g2n : decide (k < s.size) = false := decide_eq_false (by omega)
  clear hkl
  have hkv : k < v.data.toList.length := (List.getElem?_eq_some_iff.1 hy).1
  have hkw : k < v.size := by have := hvl.out; omega
  have g3 : decide ((v.size : Int) ≤ (k : Int)) = false := decide_eq_false (by omega)
  have g3n : decide (v.size ≤ k) = false := decide_eq_false (by omega)
  rw [hvb] at cV
  clear hy hvb
  have hk0 := Ok.refl hG
  go_enter Tryd.func8, Tryd.ntmps8
  go_wp2_with fail
  refine (awake13 w hk0.good).mono ?_
  rintro e w1 ⟨rfl, hb1⟩
  have hkc1 := hk0.step hb1
  go_wp2_with fail
  refine (cL w1).mono ?_
  rintro e w2 ⟨rfl, hb2⟩
  have hkc2 := hkc1.step hb2
  go_wp2_with fail
  refine (cN' w2).mono ?_
  rintro e w3 ⟨rfl, hb3⟩
  have hkc3 := hkc2.step hb3
  go_wp2_with fail
  refine (cN w3).mono ?_
  rintro e w4 ⟨rfl, hb4⟩
  have hkc4 := hkc3.step hb4
  go_wp2_with fail
  refine (cN w4).mono ?_
  rintro e w5 ⟨rfl, hb5⟩
  have hkc5 := hkc4.step hb5
  go_wp2_with fail
  refine (cV w5).mono ?_
  rintro e w6 ⟨rfl, hb6⟩
  have hkc6 := hkc5.step hb6
  go_wp2
  go_ret
  exact ⟨rfl, hkc6.below⟩

set_option maxHeartbeats 8000000 in
set_option maxRecDepth 100000 in
theorem name_walk_f_out0_vok (s v : ByteArray) (i : Int) (hs : s.size ≤ 300) (hv : v.size ≤ 300) (w : World) (hG : Good w) (hnb : nameB s.data.toList = false) (k : Nat) (hk : i = k) (hkl : s.size ≤ k) (y : UInt8) (hy : v.data.toList[k]? = some y) (hvb : valueB v.data.toList = true) (hyb : y.toNat ≠ 10 ∧ y.toNat ≠ 13 ∧ y.toNat ≠ 0) (h32 : y.toNat ≠ 32) :
    Calls Tryd.prog 8 #[.string s, .string v, .int .i64 i] w fun e w' => e = .returned (.bool true) ∧ Below w.heap.size w w' := by
  have d0 : decide ((300 : Int) < (s.size : Int)) = false := decide_eq_false (by omega)
  have d1 : decide ((300 : Int) < (v.size : Int)) = false := decide_eq_false (by omega)
  have hsl := Lib.hid (size_list s)
  have hvl := Lib.hid (size_list v)
  have cL := fun w1 => ascii_Lower_any s (by omega) w1
  have cN' := fun w1 => head_Name_any ⟨(lowL s.data.toList).toArray⟩ w1
  rw [mk_toList, name_low] at cN'
  have cN := fun w1 => head_Name_any s w1
  have cV := fun w1 => head_Value_any v (by omega) w1
  generalize (⟨(lowL s.data.toList).toArray⟩ : ByteArray) = ls at *
  rw [hnb] at cN cN'
  subst hk
  have g0 : decide ((0 : Int) ≤ (k : Int)) = true := decide_eq_true (by omega)
  have g1 : decide ((k : Int) < 0) = false := decide_eq_false (by omega)
  have g2 : decide ((k : Int) < (s.size : Int)) = false := decide_eq_false (by omega)
  have g2n : decide (k < s.size) = false := decide_eq_false (by omega)
  clear hkl
  have hkv : k < v.data.toList.length := (List.getElem?_eq_some_iff.1 hy).1
  have hkw : k < v.size := by have := hvl.out; omega
  have g3 : decide ((v.size : Int) ≤ (k : Int)) = false := decide_eq_false (by omega)
  have g3n : decide (v.size ≤ k) = false := decide_eq_false (by omega)
  rw [hvb] at cV
  have hgv : v[k]'hkw = y := get_cons (l := v.data.toList.drop (k + 1)) (by rw [List.drop_eq_getElem_cons hkv, (List.getElem?_eq_some_iff.1 hy).2]) _
  obtain ⟨z0, z1, z2⟩ := hyb
  have f0 : ((y.toNat : Int) != 10) = true := bne_iff_ne.2 (by omega)
  have f1 : ((y.toNat : Int) != 13) = true := bne_iff_ne.2 (by omega)
  have f2 : ((y.toNat : Int) != 0) = true := bne_iff_ne.2 (by omega)
  have f3 : ((y.toNat : Int) != 32) = true := bne_iff_ne.2 (by omega)
  clear z0 z1 z2 h32
  clear hy hvb
  have hk0 := Ok.refl hG
  go_enter Tryd.func8, Tryd.ntmps8
  go_wp2_with fail
  refine (awake13 w hk0.good).mono ?_
  rintro e w1 ⟨rfl, hb1⟩
  have hkc1 := hk0.step hb1
  go_wp2_with fail
  refine (cL w1).mono ?_
  rintro e w2 ⟨rfl, hb2⟩
  have hkc2 := hkc1.step hb2
  go_wp2_with fail
  refine (cN' w2).mono ?_
  rintro e w3 ⟨rfl, hb3⟩
  have hkc3 := hkc2.step hb3
  go_wp2_with fail
  refine (cN w3).mono ?_
  rintro e w4 ⟨rfl, hb4⟩
  have hkc4 := hkc3.step hb4
  go_wp2_with fail
  refine (cN w4).mono ?_
  rintro e w5 ⟨rfl, hb5⟩
  have hkc5 := hkc4.step hb5
  go_wp2_with fail
  refine (cV w5).mono ?_
  rintro e w6 ⟨rfl, hb6⟩
  have hkc6 := hkc5.step hb6
  go_wp2
  go_ret
  exact ⟨rfl, hkc6.below⟩

set_option maxHeartbeats 8000000 in
set_option maxRecDepth 100000 in
theorem name_walk_f_out0_vsp (s v : ByteArray) (i : Int) (hs : s.size ≤ 300) (hv : v.size ≤ 300) (w : World) (hG : Good w) (hnb : nameB s.data.toList = false) (k : Nat) (hk : i = k) (hkl : s.size ≤ k) (y : UInt8) (hy : v.data.toList[k]? = some y) (hvb : valueB v.data.toList = true) (hyb : y.toNat ≠ 10 ∧ y.toNat ≠ 13 ∧ y.toNat ≠ 0) (h32 : y.toNat = 32) (hp : 0 < k ∧ k + 1 < v.size) :
    Calls Tryd.prog 8 #[.string s, .string v, .int .i64 i] w fun e w' => e = .returned (.bool true) ∧ Below w.heap.size w w' := by
  have d0 : decide ((300 : Int) < (s.size : Int)) = false := decide_eq_false (by omega)
  have d1 : decide ((300 : Int) < (v.size : Int)) = false := decide_eq_false (by omega)
  have hsl := Lib.hid (size_list s)
  have hvl := Lib.hid (size_list v)
  have cL := fun w1 => ascii_Lower_any s (by omega) w1
  have cN' := fun w1 => head_Name_any ⟨(lowL s.data.toList).toArray⟩ w1
  rw [mk_toList, name_low] at cN'
  have cN := fun w1 => head_Name_any s w1
  have cV := fun w1 => head_Value_any v (by omega) w1
  generalize (⟨(lowL s.data.toList).toArray⟩ : ByteArray) = ls at *
  rw [hnb] at cN cN'
  subst hk
  have g0 : decide ((0 : Int) ≤ (k : Int)) = true := decide_eq_true (by omega)
  have g1 : decide ((k : Int) < 0) = false := decide_eq_false (by omega)
  have g2 : decide ((k : Int) < (s.size : Int)) = false := decide_eq_false (by omega)
  have g2n : decide (k < s.size) = false := decide_eq_false (by omega)
  clear hkl
  have hkv : k < v.data.toList.length := (List.getElem?_eq_some_iff.1 hy).1
  have hkw : k < v.size := by have := hvl.out; omega
  have g3 : decide ((v.size : Int) ≤ (k : Int)) = false := decide_eq_false (by omega)
  have g3n : decide (v.size ≤ k) = false := decide_eq_false (by omega)
  rw [hvb] at cV
  have hgv : v[k]'hkw = y := get_cons (l := v.data.toList.drop (k + 1)) (by rw [List.drop_eq_getElem_cons hkv, (List.getElem?_eq_some_iff.1 hy).2]) _
  obtain ⟨z0, z1, z2⟩ := hyb
  have f0 : ((y.toNat : Int) != 10) = true := bne_iff_ne.2 (by omega)
  have f1 : ((y.toNat : Int) != 13) = true := bne_iff_ne.2 (by omega)
  have f2 : ((y.toNat : Int) != 0) = true := bne_iff_ne.2 (by omega)
  have f3 : ((y.toNat : Int) != 32) = false := by rw [h32]; rfl
  have f4 : decide ((0 : Int) < (k : Int)) = true := decide_eq_true (by omega)
  have f4n : decide (0 < k) = true := decide_eq_true (by omega)
  have f4p : 0 < k := by omega
  have f5 : decide ((k : Int) < (v.size : Int) - 1) = true := decide_eq_true (by omega)
  have f6 : IntKind.i64.wrap ((v.size : Int) - 1) = (v.size : Int) - 1 := by rw [IntKind.wrap_i64]; omega
  clear z0 z1 z2 h32 hp
  clear hy hvb
  have hk0 := Ok.refl hG
  go_enter Tryd.func8, Tryd.ntmps8
  go_wp2_with fail
  refine (awake13 w hk0.good).mono ?_
  rintro e w1 ⟨rfl, hb1⟩
  have hkc1 := hk0.step hb1
  go_wp2_with fail
  refine (cL w1).mono ?_
  rintro e w2 ⟨rfl, hb2⟩
  have hkc2 := hkc1.step hb2
  go_wp2_with fail
  refine (cN' w2).mono ?_
  rintro e w3 ⟨rfl, hb3⟩
  have hkc3 := hkc2.step hb3
  go_wp2_with fail
  refine (cN w3).mono ?_
  rintro e w4 ⟨rfl, hb4⟩
  have hkc4 := hkc3.step hb4
  go_wp2_with fail
  refine (cN w4).mono ?_
  rintro e w5 ⟨rfl, hb5⟩
  have hkc5 := hkc4.step hb5
  go_wp2_with fail
  refine (cV w5).mono ?_
  rintro e w6 ⟨rfl, hb6⟩
  have hkc6 := hkc5.step hb6
  go_wp2
  go_ret
  exact ⟨rfl, hkc6.below⟩

set_option maxHeartbeats 8000000 in
set_option maxRecDepth 100000 in
theorem name_walk_t_neg_none (s v : ByteArray) (i : Int) (hs : s.size ≤ 300) (hv : v.size ≤ 300) (w : World) (hG : Good w) (hnb : nameB s.data.toList = true) (he : s.size ≠ 0) (hi : i < 0) :
    Calls Tryd.prog 8 #[.string s, .string v, .int .i64 i] w fun e w' => e = .returned (.bool true) ∧ Below w.heap.size w w' := by
  have d0 : decide ((300 : Int) < (s.size : Int)) = false := decide_eq_false (by omega)
  have d1 : decide ((300 : Int) < (v.size : Int)) = false := decide_eq_false (by omega)
  have hsl := Lib.hid (size_list s)
  have hvl := Lib.hid (size_list v)
  have cL := fun w1 => ascii_Lower_any s (by omega) w1
  have cN' := fun w1 => head_Name_any ⟨(lowL s.data.toList).toArray⟩ w1
  rw [mk_toList, name_low] at cN'
  have cN := fun w1 => head_Name_any s w1
  have cV := fun w1 => head_Value_any v (by omega) w1
  generalize (⟨(lowL s.data.toList).toArray⟩ : ByteArray) = ls at *
  rw [hnb] at cN cN'
  have q0 : s.toList.isEmpty = false := by rw [ba_toList, List.isEmpty_eq_false_iff]; intro h; exact he (by rw [size_list, h]; rfl)
  have g0 : decide ((0 : Int) ≤ i) = false := decide_eq_false (by omega)
  have g1 : decide (i < 0) = true := decide_eq_true hi
  have hk0 := Ok.refl hG
  go_enter Tryd.func8, Tryd.ntmps8
  go_wp2_with fail
  refine (awake13 w hk0.good).mono ?_
  rintro e w1 ⟨rfl, hb1⟩
  have hkc1 := hk0.step hb1
  go_wp2_with fail
  refine (cL w1).mono ?_
  rintro e w2 ⟨rfl, hb2⟩
  have hkc2 := hkc1.step hb2
  go_wp2_with fail
  refine (cN' w2).mono ?_
  rintro e w3 ⟨rfl, hb3⟩
  have hkc3 := hkc2.step hb3
  go_wp2_with fail
  refine (cN w3).mono ?_
  rintro e w4 ⟨rfl, hb4⟩
  have hkc4 := hkc3.step hb4
  go_wp2_with fail
  refine (cN w4).mono ?_
  rintro e w5 ⟨rfl, hb5⟩
  have hkc5 := hkc4.step hb5
  go_wp2
  go_ret
  exact ⟨rfl, hkc5.below⟩

set_option maxHeartbeats 8000000 in
set_option maxRecDepth 100000 in
theorem name_walk_t_in0_outv (s v : ByteArray) (i : Int) (hs : s.size ≤ 300) (hv : v.size ≤ 300) (w : World) (hG : Good w) (hnb : nameB s.data.toList = true) (he : s.size ≠ 0) (k : Nat) (hk : i = k) (c : UInt8) (hc : s.data.toList[k]? = some c) (hcb : 32 < c.toNat ∧ c.toNat < 127 ∧ c.toNat ≠ 58 ∧ c.toNat ≠ 44) (hkv : v.size ≤ k) :
    Calls Tryd.prog 8 #[.string s, .string v, .int .i64 i] w fun e w' => e = .returned (.bool true) ∧ Below w.heap.size w w' := by
  have d0 : decide ((300 : Int) < (s.size : Int)) = false := decide_eq_false (by omega)
  have d1 : decide ((300 : Int) < (v.size : Int)) = false := decide_eq_false (by omega)
  have hsl := Lib.hid (size_list s)
  have hvl := Lib.hid (size_list v)
  have cL := fun w1 => ascii_Lower_any s (by omega) w1
  have cN' := fun w1 => head_Name_any ⟨(lowL s.data.toList).toArray⟩ w1
  rw [mk_toList, name_low] at cN'
  have cN := fun w1 => head_Name_any s w1
  have cV := fun w1 => head_Value_any v (by omega) w1
  generalize (⟨(lowL s.data.toList).toArray⟩ : ByteArray) = ls at *
  rw [hnb] at cN cN'
  have q0 : s.toList.isEmpty = false := by rw [ba_toList, List.isEmpty_eq_false_iff]; intro h; exact he (by rw [size_list, h]; rfl)
  subst hk
  have g0 : decide ((0 : Int) ≤ (k : Int)) = true := decide_eq_true (by omega)
  have g1 : decide ((k : Int) < 0) = false := decide_eq_false (by omega)
  have hkl : k < s.data.toList.length := (List.getElem?_eq_some_iff.1 hc).1
  have hks : k < s.size := by have := hsl.out; omega
  have g2 : decide ((k : Int) < (s.size : Int)) = true := decide_eq_true (by omega)
  have g2n : decide (k < s.size) = true := decide_eq_true (by omega)
  have hg : s[k]'hks = c := get_cons (l := s.data.toList.drop (k + 1)) (by rw [List.drop_eq_getElem_cons hkl, (List.getElem?_eq_some_iff.1 hc).2]) _
  obtain ⟨u0, u1, u2, u3⟩ := hcb
  have e0 : decide ((c.toNat : Int) ≤ 32) = false := decide_eq_false (by omega)
  have e1 : decide ((127 : Int) ≤ (c.toNat : Int)) = false := decide_eq_false (by omega)
  have e2 : ((c.toNat : Int) == 58) = false := beq_eq_false_iff_ne.2 (by omega)
  have e3 : ((c.toNat : Int) == 44) = false := beq_eq_false_iff_ne.2 (by omega)
  clear u0 u1 u2 u3
  clear hc hkl
  have g3 : decide ((v.size : Int) ≤ (k : Int)) = true := decide_eq_true (by omega)
  have g3n : decide (v.size ≤ k) = true := decide_eq_true (by omega)
  clear hkv
  have hk0 := Ok.refl hG
  go_enter Tryd.func8, Tryd.ntmps8
  go_wp2_with fail
  refine (awake13 w hk0.good).mono ?_
  rintro e w1 ⟨rfl, hb1⟩
  have hkc1 := hk0.step hb1
  go_wp2_with fail
  refine (cL w1).mono ?_
  rintro e w2 ⟨rfl, hb2⟩
  have hkc2 := hkc1.step hb2
  go_wp2_with fail
  refine (cN' w2).mono ?_
  rintro e w3 ⟨rfl, hb3⟩
  have hkc3 := hkc2.step hb3
  go_wp2_with fail
  refine (cN w3).mono ?_
  rintro e w4 ⟨rfl, hb4⟩
  have hkc4 := hkc3.step hb4
  go_wp2_with fail
  refine (cN w4).mono ?_
  rintro e w5 ⟨rfl, hb5⟩
  have hkc5 := hkc4.step hb5
  go_wp2_with fail
  refine (cN w5).mono ?_
  rintro e w6 ⟨rfl, hb6⟩
  have hkc6 := hkc5.step hb6
  go_wp2
  go_ret
  exact ⟨rfl, hkc6.below⟩

set_option maxHeartbeats 8000000 in
set_option maxRecDepth 100000 in
theorem name_walk_t_in0_vno (s v : ByteArray) (i : Int) (hs : s.size ≤ 300) (hv : v.size ≤ 300) (w : World) (hG : Good w) (hnb : nameB s.data.toList = true) (he : s.size ≠ 0) (k : Nat) (hk : i = k) (c : UInt8) (hc : s.data.toList[k]? = some c) (hcb : 32 < c.toNat ∧ c.toNat < 127 ∧ c.toNat ≠ 58 ∧ c.toNat ≠ 44) (y : UInt8) (hy : v.data.toList[k]? = some y) (hvb : valueB v.data.toList = false) :
    Calls Tryd.prog 8 #[.string s, .string v, .int .i64 i] w fun e w' => e = .returned (.bool true) ∧ Below w.heap.size w w' := by
  have d0 : decide ((300 : Int) < (s.size : Int)) = false := decide_eq_false (by omega)
  have d1 : decide ((300 : Int) < (v.size : Int)) = false := decide_eq_false (by omega)
  have hsl := Lib.hid (size_list s)
  have hvl := Lib.hid (size_list v)
  have cL := fun w1 => ascii_Lower_any s (by omega) w1
  have cN' := fun w1 => head_Name_any ⟨(lowL s.data.toList).toArray⟩ w1
  rw [mk_toList, name_low] at cN'
  have cN := fun w1 => head_Name_any s w1
  have cV := fun w1 => head_Value_any v (by omega) w1
  generalize (⟨(lowL s.data.toList).toArray⟩ : ByteArray) = ls at *
  rw [hnb] at cN cN'
  have q0 : s.toList.isEmpty = false := by rw [ba_toList, List.isEmpty_eq_false_iff]; intro h; exact he (by rw [size_list, h]; rfl)
  subst hk
  have g0 : decide ((0 : Int) ≤ (k : Int)) = true := decide_eq_true (by omega)
  have g1 : decide ((k : Int) < 0) = false := decide_eq_false (by omega)
  have hkl : k < s.data.toList.length := (List.getElem?_eq_some_iff.1 hc).1
  have hks : k < s.size := by have := hsl.out; omega
  have g2 : decide ((k : Int) < (s.size : Int)) = true := decide_eq_true (by omega)
  have g2n : decide (k < s.size) = true := decide_eq_true (by omega)
  have hg : s[k]'hks = c := get_cons (l := s.data.toList.drop (k + 1)) (by rw [List.drop_eq_getElem_cons hkl, (List.getElem?_eq_some_iff.1 hc).2]) _
  obtain ⟨u0, u1, u2, u3⟩ := hcb
  have e0 : decide ((c.toNat : Int) ≤ 32) = false := decide_eq_false (by omega)
  have e1 : decide ((127 : Int) ≤ (c.toNat : Int)) = false := decide_eq_false (by omega)
  have e2 : ((c.toNat : Int) == 58) = false := beq_eq_false_iff_ne.2 (by omega)
  have e3 : ((c.toNat : Int) == 44) = false := beq_eq_false_iff_ne.2 (by omega)
  clear u0 u1 u2 u3
  clear hc hkl
  have hkv : k < v.data.toList.length := (List.getElem?_eq_some_iff.1 hy).1
  have hkw : k < v.size := by have := hvl.out; omega
  have g3 : decide ((v.size : Int) ≤ (k : Int)) = false := decide_eq_false (by omega)
  have g3n : decide (v.size ≤ k) = false := decide_eq_false (by omega)
  rw [hvb] at cV
  clear hy hvb
  have hk0 := Ok.refl hG
  go_enter Tryd.func8, Tryd.ntmps8
  go_wp2_with fail
  refine (awake13 w hk0.good).mono ?_
  rintro e w1 ⟨rfl, hb1⟩
  have hkc1 := hk0.step hb1
  go_wp2_with fail
  refine (cL w1).mono ?_
  rintro e w2 ⟨rfl, hb2⟩
  have hkc2 := hkc1.step hb2
  go_wp2_with fail
  refine (cN' w2).mono ?_
  rintro e w3 ⟨rfl, hb3⟩
  have hkc3 := hkc2.step hb3
  go_wp2_with fail
  refine (cN w3).mono ?_
  rintro e w4 ⟨rfl, hb4⟩
  have hkc4 := hkc3.step hb4
  go_wp2_with fail
  refine (cN w4).mono ?_
  rintro e w5 ⟨rfl, hb5⟩
  have hkc5 := hkc4.step hb5
  go_wp2_with fail
  refine (cN w5).mono ?_
  rintro e w6 ⟨rfl, hb6⟩
  have hkc6 := hkc5.step hb6
  go_wp2_with fail
  refine (cV w6).mono ?_
  rintro e w7 ⟨rfl, hb7⟩
  have hkc7 := hkc6.step hb7
  go_wp2
  go_ret
  exact ⟨rfl, hkc7.below⟩

set_option maxHeartbeats 8000000 in
set_option maxRecDepth 100000 in
theorem name_walk_t_in0_vok (s v : ByteArray) (i : Int) (hs : s.size ≤ 300) (hv : v.size ≤ 300) (w : World) (hG : Good w) (hnb : nameB s.data.toList = true) (he : s.size ≠ 0) (k : Nat) (hk : i = k) (c : UInt8) (hc : s.data.toList[k]? = some c) (hcb : 32 < c.toNat ∧ c.toNat < 127 ∧ c.toNat ≠ 58 ∧ c.toNat ≠ 44) (y : UInt8) (hy : v.data.toList[k]? = some y) (hvb : valueB v.data.toList = true) (hyb : y.toNat ≠ 10 ∧ y.toNat ≠ 13 ∧ y.toNat ≠ 0) (h32 : y.toNat ≠ 32) :
    Calls Tryd.prog 8 #[.string s, .string v, .int .i64 i] w fun e w' => e = .returned (.bool true) ∧ Below w.heap.size w w' := by
  have d0 : decide ((300 : Int) < (s.size : Int)) = false := decide_eq_false (by omega)
  have d1 : decide ((300 : Int) < (v.size : Int)) = false := decide_eq_false (by omega)
  have hsl := Lib.hid (size_list s)
  have hvl := Lib.hid (size_list v)
  have cL := fun w1 => ascii_Lower_any s (by omega) w1
  have cN' := fun w1 => head_Name_any ⟨(lowL s.data.toList).toArray⟩ w1
  rw [mk_toList, name_low] at cN'
  have cN := fun w1 => head_Name_any s w1
  have cV := fun w1 => head_Value_any v (by omega) w1
  generalize (⟨(lowL s.data.toList).toArray⟩ : ByteArray) = ls at *
  rw [hnb] at cN cN'
  have q0 : s.toList.isEmpty = false := by rw [ba_toList, List.isEmpty_eq_false_iff]; intro h; exact he (by rw [size_list, h]; rfl)
  subst hk
  have g0 : decide ((0 : Int) ≤ (k : Int)) = true := decide_eq_true (by omega)
  have g1 : decide ((k : Int) < 0) = false := decide_eq_false (by omega)
  have hkl : k < s.data.toList.length := (List.getElem?_eq_some_iff.1 hc).1
  have hks : k < s.size := by have := hsl.out; omega
  have g2 : decide ((k : Int) < (s.size : Int)) = true := decide_eq_true (by omega)
  have g2n : decide (k < s.size) = true := decide_eq_true (by omega)
  have hg : s[k]'hks = c := get_cons (l := s.data.toList.drop (k + 1)) (by rw [List.drop_eq_getElem_cons hkl, (List.getElem?_eq_some_iff.1 hc).2]) _
  obtain ⟨u0, u1, u2, u3⟩ := hcb
  have e0 : decide ((c.toNat : Int) ≤ 32) = false := decide_eq_false (by omega)
  have e1 : decide ((127 : Int) ≤ (c.toNat : Int)) = false := decide_eq_false (by omega)
  have e2 : ((c.toNat : Int) == 58) = false := beq_eq_false_iff_ne.2 (by omega)
  have e3 : ((c.toNat : Int) == 44) = false := beq_eq_false_iff_ne.2 (by omega)
  clear u0 u1 u2 u3
  clear hc hkl
  have hkv : k < v.data.toList.length := (List.getElem?_eq_some_iff.1 hy).1
  have hkw : k < v.size := by have := hvl.out; omega
  have g3 : decide ((v.size : Int) ≤ (k : Int)) = false := decide_eq_false (by omega)
  have g3n : decide (v.size ≤ k) = false := decide_eq_false (by omega)
  rw [hvb] at cV
  have hgv : v[k]'hkw = y := get_cons (l := v.data.toList.drop (k + 1)) (by rw [List.drop_eq_getElem_cons hkv, (List.getElem?_eq_some_iff.1 hy).2]) _
  obtain ⟨z0, z1, z2⟩ := hyb
  have f0 : ((y.toNat : Int) != 10) = true := bne_iff_ne.2 (by omega)
  have f1 : ((y.toNat : Int) != 13) = true := bne_iff_ne.2 (by omega)
  have f2 : ((y.toNat : Int) != 0) = true := bne_iff_ne.2 (by omega)
  have f3 : ((y.toNat : Int) != 32) = true := bne_iff_ne.2 (by omega)
  clear z0 z1 z2 h32
  clear hy hvb
  have hk0 := Ok.refl hG
  go_enter Tryd.func8, Tryd.ntmps8
  go_wp2_with fail
  refine (awake13 w hk0.good).mono ?_
  rintro e w1 ⟨rfl, hb1⟩
  have hkc1 := hk0.step hb1
  go_wp2_with fail
  refine (cL w1).mono ?_
  rintro e w2 ⟨rfl, hb2⟩
  have hkc2 := hkc1.step hb2
  go_wp2_with fail
  refine (cN' w2).mono ?_
  rintro e w3 ⟨rfl, hb3⟩
  have hkc3 := hkc2.step hb3
  go_wp2_with fail
  refine (cN w3).mono ?_
  rintro e w4 ⟨rfl, hb4⟩
  have hkc4 := hkc3.step hb4
  go_wp2_with fail
  refine (cN w4).mono ?_
  rintro e w5 ⟨rfl, hb5⟩
  have hkc5 := hkc4.step hb5
  go_wp2_with fail
  refine (cN w5).mono ?_
  rintro e w6 ⟨rfl, hb6⟩
  have hkc6 := hkc5.step hb6
  go_wp2_with fail
  refine (cV w6).mono ?_
  rintro e w7 ⟨rfl, hb7⟩
  have hkc7 := hkc6.step hb7
  go_wp2
  go_ret
  exact ⟨rfl, hkc7.below⟩

set_option maxHeartbeats 8000000 in
set_option maxRecDepth 100000 in
theorem name_walk_t_in0_vsp (s v : ByteArray) (i : Int) (hs : s.size ≤ 300) (hv : v.size ≤ 300) (w : World) (hG : Good w) (hnb : nameB s.data.toList = true) (he : s.size ≠ 0) (k : Nat) (hk : i = k) (c : UInt8) (hc : s.data.toList[k]? = some c) (hcb : 32 < c.toNat ∧ c.toNat < 127 ∧ c.toNat ≠ 58 ∧ c.toNat ≠ 44) (y : UInt8) (hy : v.data.toList[k]? = some y) (hvb : valueB v.data.toList = true) (hyb : y.toNat ≠ 10 ∧ y.toNat ≠ 13 ∧ y.toNat ≠ 0) (h32 : y.toNat = 32) (hp : 0 < k ∧ k + 1 < v.size) :
    Calls Tryd.prog 8 #[.string s, .string v, .int .i64 i] w fun e w' => e = .returned (.bool true) ∧ Below w.heap.size w w' := by
  have d0 : decide ((300 : Int) < (s.size : Int)) = false := decide_eq_false (by omega)
  have d1 : decide ((300 : Int) < (v.size : Int)) = false := decide_eq_false (by omega)
  have hsl := Lib.hid (size_list s)
  have hvl := Lib.hid (size_list v)
  have cL := fun w1 => ascii_Lower_any s (by omega) w1
  have cN' := fun w1 => head_Name_any ⟨(lowL s.data.toList).toArray⟩ w1
  rw [mk_toList, name_low] at cN'
  have cN := fun w1 => head_Name_any s w1
  have cV := fun w1 => head_Value_any v (by omega) w1
  generalize (⟨(lowL s.data.toList).toArray⟩ : ByteArray) = ls at *
  rw [hnb] at cN cN'
  have q0 : s.toList.isEmpty = false := by rw [ba_toList, List.isEmpty_eq_false_iff]; intro h; exact he (by rw [size_list, h]; rfl)
  subst hk
  have g0 : decide ((0 : Int) ≤ (k : Int)) = true := decide_eq_true (by omega)
  have g1 : decide ((k : Int) < 0) = false := decide_eq_false (by omega)
  have hkl : k < s.data.toList.length := (List.getElem?_eq_some_iff.1 hc).1
  have hks : k < s.size := by have := hsl.out; omega
  have g2 : decide ((k : Int) < (s.size : Int)) = true := decide_eq_true (by omega)
  have g2n : decide (k < s.size) = true := decide_eq_true (by omega)
  have hg : s[k]'hks = c := get_cons (l := s.data.toList.drop (k + 1)) (by rw [List.drop_eq_getElem_cons hkl, (List.getElem?_eq_some_iff.1 hc).2]) _
  obtain ⟨u0, u1, u2, u3⟩ := hcb
  have e0 : decide ((c.toNat : Int) ≤ 32) = false := decide_eq_false (by omega)
  have e1 : decide ((127 : Int) ≤ (c.toNat : Int)) = false := decide_eq_false (by omega)
  have e2 : ((c.toNat : Int) == 58) = false := beq_eq_false_iff_ne.2 (by omega)
  have e3 : ((c.toNat : Int) == 44) = false := beq_eq_false_iff_ne.2 (by omega)
  clear u0 u1 u2 u3
  clear hc hkl
  have hkv : k < v.data.toList.length := (List.getElem?_eq_some_iff.1 hy).1
  have hkw : k < v.size := by have := hvl.out; omega
  have g3 : decide ((v.size : Int) ≤ (k : Int)) = false := decide_eq_false (by omega)
  have g3n : decide (v.size ≤ k) = false := decide_eq_false (by omega)
  rw [hvb] at cV
  have hgv : v[k]'hkw = y := get_cons (l := v.data.toList.drop (k + 1)) (by rw [List.drop_eq_getElem_cons hkv, (List.getElem?_eq_some_iff.1 hy).2]) _
  obtain ⟨z0, z1, z2⟩ := hyb
  have f0 : ((y.toNat : Int) != 10) = true := bne_iff_ne.2 (by omega)
  have f1 : ((y.toNat : Int) != 13) = true := bne_iff_ne.2 (by omega)
  have f2 : ((y.toNat : Int) != 0) = true := bne_iff_ne.2 (by omega)
  have f3 : ((y.toNat : Int) != 32) = false := by rw [h32]; rfl
  have f4 : decide ((0 : Int) < (k : Int)) = true := decide_eq_true (by omega)
  have f4n : decide (0 < k) = true := decide_eq_true (by omega)
  have f4p : 0 < k := by omega
  have f5 : decide ((k : Int) < (v.size : Int) - 1) = true := decide_eq_true (by omega)
  have f6 : IntKind.i64.wrap ((v.size : Int) - 1) = (v.size : Int) - 1 := by rw [IntKind.wrap_i64]; omega
  clear z0 z1 z2 h32 hp
  clear hy hvb
  have hk0 := Ok.refl hG
  go_enter Tryd.func8, Tryd.ntmps8
  go_wp2_with fail
  refine (awake13 w hk0.good).mono ?_
  rintro e w1 ⟨rfl, hb1⟩
  have hkc1 := hk0.step hb1
  go_wp2_with fail
  refine (cL w1).mono ?_
  rintro e w2 ⟨rfl, hb2⟩
  have hkc2 := hkc1.step hb2
  go_wp2_with fail
  refine (cN' w2).mono ?_
  rintro e w3 ⟨rfl, hb3⟩
  have hkc3 := hkc2.step hb3
  go_wp2_with fail
  refine (cN w3).mono ?_
  rintro e w4 ⟨rfl, hb4⟩
  have hkc4 := hkc3.step hb4
  go_wp2_with fail
  refine (cN w4).mono ?_
  rintro e w5 ⟨rfl, hb5⟩
  have hkc5 := hkc4.step hb5
  go_wp2_with fail
  refine (cN w5).mono ?_
  rintro e w6 ⟨rfl, hb6⟩
  have hkc6 := hkc5.step hb6
  go_wp2_with fail
  refine (cV w6).mono ?_
  rintro e w7 ⟨rfl, hb7⟩
  have hkc7 := hkc6.step hb7
  go_wp2
  go_ret
  exact ⟨rfl, hkc7.below⟩

set_option maxHeartbeats 8000000 in
set_option maxRecDepth 100000 in
theorem name_walk_t_out0_outv (s v : ByteArray) (i : Int) (hs : s.size ≤ 300) (hv : v.size ≤ 300) (w : World) (hG : Good w) (hnb : nameB s.data.toList = true) (he : s.size ≠ 0) (k : Nat) (hk : i = k) (hkl : s.size ≤ k) (hkv : v.size ≤ k) :
    Calls Tryd.prog 8 #[.string s, .string v, .int .i64 i] w fun e w' => e = .returned (.bool true) ∧ Below w.heap.size w w' := by
  have d0 : decide ((300 : Int) < (s.size : Int)) = false := decide_eq_false (by omega)
  have d1 : decide ((300 : Int) < (v.size : Int)) = false := decide_eq_false (by omega)
  have hsl := Lib.hid (size_list s)
  have hvl := Lib.hid (size_list v)
  have cL := fun w1 => ascii_Lower_any s (by omega) w1
  have cN' := fun w1 => head_Name_any ⟨(lowL s.data.toList).toArray⟩ w1
  rw [mk_toList, name_low] at cN'
  have cN := fun w1 => head_Name_any s w1
  have cV := fun w1 => head_Value_any v (by omega) w1
  generalize (⟨(lowL s.data.toList).toArray⟩ : ByteArray) = ls at *
  rw [hnb] at cN cN'
  have q0 : s.toList.isEmpty = false := by rw [ba_toList, List.isEmpty_eq_false_iff]; intro h; exact he (by rw [size_list, h]; rfl)
  subst hk
  have g0 : decide ((0 : Int) ≤ (k : Int)) = true := decide_eq_true (by omega)
  have g1 : decide ((k : Int) < 0) = false := decide_eq_false (by omega)
  have g2 : decide ((k : Int) < (s.size : Int)) = false := decide_eq_false (by omega)
  have g2n : decide (k < s.size) = false := decide_eq_false (by omega)
  clear hkl
  have g3 : decide ((v.size : Int) ≤ (k : Int)) = true := decide_eq_true (by omega)
  have g3n : decide (v.size ≤ k) = true := decide_eq_true (by omega)
  clear hkv
  have hk0 := Ok.refl hG
  go_enter Tryd.func8, Tryd.ntmps8
  go_wp2_with fail
  refine (awake13 w hk0.good).mono ?_
  rintro e w1 ⟨rfl, hb1⟩
  have hkc1 := hk0.step hb1
  go_wp2_with fail
  refine (cL w1).mono ?_
  rintro e w2 ⟨rfl, hb2⟩
  have hkc2 := hkc1.step hb2
  go_wp2_with fail
  refine (cN' w2).mono ?_
  rintro e w3 ⟨rfl, hb3⟩
  have hkc3 := hkc2.step hb3
  go_wp2_with fail
  refine (cN w3).mono ?_
  rintro e w4 ⟨rfl, hb4⟩
  have hkc4 := hkc3.step hb4
  go_wp2_with fail
  refine (cN w4).mono ?_
  rintro e w5 ⟨rfl, hb5⟩
  have hkc5 := hkc4.step hb5
  go_wp2
  go_ret
  exact ⟨rfl, hkc5.below⟩

set_option maxHeartbeats 8000000 in
set_option maxRecDepth 100000 in
theorem name_walk_t_out0_vno (s v : ByteArray) (i : Int) (hs : s.size ≤ 300) (hv : v.size ≤ 300) (w : World) (hG : Good w) (hnb : nameB s.data.toList = true) (he : s.size ≠ 0) (k : Nat) (hk : i = k) (hkl : s.size ≤ k) (y : UInt8) (hy : v.data.toList[k]? = some y) (hvb : valueB v.data.toList = false) :
    Calls Tryd.prog 8 #[.string s, .string v, .int .i64 i] w fun e w' => e = .returned (.bool true) ∧ Below w.heap.size w w' := by
  have d0 : decide ((300 : Int) < (s.size : Int)) = false := decide_eq_false (by omega)
  have d1 : decide ((300 : Int) < (v.size : Int)) = false := decide_eq_false (by omega)
  have hsl := Lib.hid (size_list s)
  have hvl := Lib.hid (size_list v)
  have cL := fun w1 => ascii_Lower_any s (by omega) w1
  have cN' := fun w1 => head_Name_any ⟨(lowL s.data.toList).toArray⟩ w1
  rw [mk_toList, name_low] at cN'
  have cN := fun w1 => head_Name_any s w1
  have cV := fun w1 => head_Value_any v (by omega) w1
  generalize (⟨(lowL s.data.toList).toArray⟩ : ByteArray) = ls at *
  rw [hnb] at cN cN'
  have q0 : s.toList.isEmpty = false := by rw [ba_toList, List.isEmpty_eq_false_iff]; intro h; exact he (by rw [size_list, h]; rfl)
  subst hk
  have g0 : decide ((0 : Int) ≤ (k : Int)) = true := decide_eq_true (by omega)
  have g1 : decide ((k : Int) < 0) = false := decide_eq_false (by omega)
  have g2 : decide ((k : Int) < (s.size : Int)) = false := decide_eq_false (by omega)
  have g2n : decide (k < s.size) = false := decide_eq_false (by omega)
  clear hkl
  have hkv : k < v.data.toList.length := (List.getElem?_eq_some_iff.1 hy).1
  have hkw : k < v.size := by have := hvl.out; omega
  have g3 : decide ((v.size : Int) ≤ (k : Int)) = false := decide_eq_false (by omega)
  have g3n : decide (v.size ≤ k) = false := decide_eq_false (by omega)
  rw [hvb] at cV
  clear hy hvb
  have hk0 := Ok.refl hG
  go_enter Tryd.func8, Tryd.ntmps8
  go_wp2_with fail
  refine (awake13 w hk0.good).mono ?_
  rintro e w1 ⟨rfl, hb1⟩
  have hkc1 := hk0.step hb1
  go_wp2_with fail
  refine (cL w1).mono ?_
  rintro e w2 ⟨rfl, hb2⟩
  have hkc2 := hkc1.step hb2
  go_wp2_with fail
  refine (cN' w2).mono ?_
  rintro e w3 ⟨rfl, hb3⟩
  have hkc3 := hkc2.step hb3
  go_wp2_with fail
  refine (cN w3).mono ?_
  rintro e w4 ⟨rfl, hb4⟩
  have hkc4 := hkc3.step hb4
  go_wp2_with fail
  refine (cN w4).mono ?_
  rintro e w5 ⟨rfl, hb5⟩
  have hkc5 := hkc4.step hb5
  go_wp2_with fail
  refine (cV w5).mono ?_
  rintro e w6 ⟨rfl, hb6⟩
  have hkc6 := hkc5.step hb6
  go_wp2
  go_ret
  exact ⟨rfl, hkc6.below⟩

set_option maxHeartbeats 8000000 in
set_option maxRecDepth 100000 in
theorem name_walk_t_out0_vok (s v : ByteArray) (i : Int) (hs : s.size ≤ 300) (hv : v.size ≤ 300) (w : World) (hG : Good w) (hnb : nameB s.data.toList = true) (he : s.size ≠ 0) (k : Nat) (hk : i = k) (hkl : s.size ≤ k) (y : UInt8) (hy : v.data.toList[k]? = some y) (hvb : valueB v.data.toList = true) (hyb : y.toNat ≠ 10 ∧ y.toNat ≠ 13 ∧ y.toNat ≠ 0) (h32 : y.toNat ≠ 32) :
    Calls Tryd.prog 8 #[.string s, .string v, .int .i64 i] w fun e w' => e = .returned (.bool true) ∧ Below w.heap.size w w' := by
  have d0 : decide ((300 : Int) < (s.size : Int)) = false := decide_eq_false (by omega)
  have d1 : decide ((300 : Int) < (v.size : Int)) = false := decide_eq_false (by omega)
  have hsl := Lib.hid (size_list s)
  have hvl := Lib.hid (size_list v)
  have cL := fun w1 => ascii_Lower_any s (by omega) w1
  have cN' := fun w1 => head_Name_any ⟨(lowL s.data.toList).toArray⟩ w1
  rw [mk_toList, name_low] at cN'
  have cN := fun w1 => head_Name_any s w1
  have cV := fun w1 => head_Value_any v (by omega) w1
  generalize (⟨(lowL s.data.toList).toArray⟩ : ByteArray) = ls at *
  rw [hnb] at cN cN'
  have q0 : s.toList.isEmpty = false := by rw [ba_toList, List.isEmpty_eq_false_iff]; intro h; exact he (by rw [size_list, h]; rfl)
  subst hk
  have g0 : decide ((0 : Int) ≤ (k : Int)) = true := decide_eq_true (by omega)
  have g1 : decide ((k : Int) < 0) = false := decide_eq_false (by omega)
  have g2 : decide ((k : Int) < (s.size : Int)) = false := decide_eq_false (by omega)
  have g2n : decide (k < s.size) = false := decide_eq_false (by omega)
  clear hkl
  have hkv : k < v.data.toList.length := (List.getElem?_eq_some_iff.1 hy).1
  have hkw : k < v.size := by have := hvl.out; omega
  have g3 : decide ((v.size : Int) ≤ (k : Int)) = false := decide_eq_false (by omega)
  have g3n : decide (v.size ≤ k) = false := decide_eq_false (by omega)
  rw [hvb] at cV
  have hgv : v[k]'hkw = y := get_cons (l := v.data.toList.drop (k + 1)) (by rw [List.drop_eq_getElem_cons hkv, (List.getElem?_eq_some_iff.1 hy).2]) _
  obtain ⟨z0, z1, z2⟩ := hyb
  have f0 : ((y.toNat : Int) != 10) = true := bne_iff_ne.2 (by omega)
  have f1 : ((y.toNat : Int) != 13) = true := bne_iff_ne.2 (by omega)
  have f2 : ((y.toNat : Int) != 0) = true := bne_iff_ne.2 (by omega)
  have f3 : ((y.toNat : Int) != 32) = true := bne_iff_ne.2 (by omega)
  clear z0 z1 z2 h32
  clear hy hvb
  have hk0 := Ok.refl hG
  go_enter Tryd.func8, Tryd.ntmps8
  go_wp2_with fail
  refine (awake13 w hk0.good).mono ?_
  rintro e w1 ⟨rfl, hb1⟩
  have hkc1 := hk0.step hb1
  go_wp2_with fail
  refine (cL w1).mono ?_
  rintro e w2 ⟨rfl, hb2⟩
  have hkc2 := hkc1.step hb2
  go_wp2_with fail
  refine (cN' w2).mono ?_
  rintro e w3 ⟨rfl, hb3⟩
  have hkc3 := hkc2.step hb3
  go_wp2_with fail
  refine (cN w3).mono ?_
  rintro e w4 ⟨rfl, hb4⟩
  have hkc4 := hkc3.step hb4
  go_wp2_with fail
  refine (cN w4).mono ?_
  rintro e w5 ⟨rfl, hb5⟩
  have hkc5 := hkc4.step hb5
  go_wp2_with fail
  refine (cV w5).mono ?_
  rintro e w6 ⟨rfl, hb6⟩
  have hkc6 := hkc5.step hb6
  go_wp2
  go_ret
  exact ⟨rfl, hkc6.below⟩

set_option maxHeartbeats 8000000 in
set_option maxRecDepth 100000 in
theorem name_walk_t_out0_vsp (s v : ByteArray) (i : Int) (hs : s.size ≤ 300) (hv : v.size ≤ 300) (w : World) (hG : Good w) (hnb : nameB s.data.toList = true) (he : s.size ≠ 0) (k : Nat) (hk : i = k) (hkl : s.size ≤ k) (y : UInt8) (hy : v.data.toList[k]? = some y) (hvb : valueB v.data.toList = true) (hyb : y.toNat ≠ 10 ∧ y.toNat ≠ 13 ∧ y.toNat ≠ 0) (h32 : y.toNat = 32) (hp : 0 < k ∧ k + 1 < v.size) :
    Calls Tryd.prog 8 #[.string s, .string v, .int .i64 i] w fun e w' => e = .returned (.bool true) ∧ Below w.heap.size w w' := by
  have d0 : decide ((300 : Int) < (s.size : Int)) = false := decide_eq_false (by omega)
  have d1 : decide ((300 : Int) < (v.size : Int)) = false := decide_eq_false (by omega)
  have hsl := Lib.hid (size_list s)
  have hvl := Lib.hid (size_list v)
  have cL := fun w1 => ascii_Lower_any s (by omega) w1
  have cN' := fun w1 => head_Name_any ⟨(lowL s.data.toList).toArray⟩ w1
  rw [mk_toList, name_low] at cN'
  have cN := fun w1 => head_Name_any s w1
  have cV := fun w1 => head_Value_any v (by omega) w1
  generalize (⟨(lowL s.data.toList).toArray⟩ : ByteArray) = ls at *
  rw [hnb] at cN cN'
  have q0 : s.toList.isEmpty = false := by rw [ba_toList, List.isEmpty_eq_false_iff]; intro h; exact he (by rw [size_list, h]; rfl)
  subst hk
  have g0 : decide ((0 : Int) ≤ (k : Int)) = true := decide_eq_true (by omega)
  have g1 : decide ((k : Int) < 0) = false := decide_eq_false (by omega)
  have g2 : decide ((k : Int) < (s.size : Int)) = false := decide_eq_false (by omega)
  have g2n : decide (k < s.size) = false := decide_eq_false (by omega)
  clear hkl
  have hkv : k < v.data.toList.length := (List.getElem?_eq_some_iff.1 hy).1
  have hkw : k < v.size := by have := hvl.out; omega
  have g3 : decide ((v.size : Int) ≤ (k : Int)) = false := decide_eq_false (by omega)
  have g3n : decide (v.size ≤ k) = false := decide_eq_false (by omega)
  rw [hvb] at cV
  have hgv : v[k]'hkw = y := get_cons (l := v.data.toList.drop (k + 1)) (by rw [List.drop_eq_getElem_cons hkv, (List.getElem?_eq_some_iff.1 hy).2]) _
  obtain ⟨z0, z1, z2⟩ := hyb
  have f0 : ((y.toNat : Int) != 10) = true := bne_iff_ne.2 (by omega)
  have f1 : ((y.toNat : Int) != 13) = true := bne_iff_ne.2 (by omega)
  have f2 : ((y.toNat : Int) != 0) = true := bne_iff_ne.2 (by omega)
  have f3 : ((y.toNat : Int) != 32) = false := by rw [h32]; rfl
  have f4 : decide ((0 : Int) < (k : Int)) = true := decide_eq_true (by omega)
  have f4n : decide (0 < k) = true := decide_eq_true (by omega)
  have f4p : 0 < k := by omega
  have f5 : decide ((k : Int) < (v.size : Int) - 1) = true := decide_eq_true (by omega)
  have f6 : IntKind.i64.wrap ((v.size : Int) - 1) = (v.size : Int) - 1 := by rw [IntKind.wrap_i64]; omega
  clear z0 z1 z2 h32 hp
  clear hy hvb
  have hk0 := Ok.refl hG
  go_enter Tryd.func8, Tryd.ntmps8
  go_wp2_with fail
  refine (awake13 w hk0.good).mono ?_
  rintro e w1 ⟨rfl, hb1⟩
  have hkc1 := hk0.step hb1
  go_wp2_with fail
  refine (cL w1).mono ?_
  rintro e w2 ⟨rfl, hb2⟩
  have hkc2 := hkc1.step hb2
  go_wp2_with fail
  refine (cN' w2).mono ?_
  rintro e w3 ⟨rfl, hb3⟩
  have hkc3 := hkc2.step hb3
  go_wp2_with fail
  refine (cN w3).mono ?_
  rintro e w4 ⟨rfl, hb4⟩
  have hkc4 := hkc3.step hb4
  go_wp2_with fail
  refine (cN w4).mono ?_
  rintro e w5 ⟨rfl, hb5⟩
  have hkc5 := hkc4.step hb5
  go_wp2_with fail
  refine (cV w5).mono ?_
  rintro e w6 ⟨rfl, hb6⟩
  have hkc6 := hkc5.step hb6
  go_wp2
  go_ret
  exact ⟨rfl, hkc6.below⟩


set_option maxHeartbeats 4000000 in
set_option maxRecDepth 100000 in
theorem law_HeadName (s v : ByteArray) (i : Int) (_ha : s.size ≤ 140737488351232) (_hb : v.size ≤ 140737488351232) (_hi : (Lit.int .i64 i).wf = true) (w : World) (hG : Good w) :
    Calls Tryd.prog 8 #[.string s, .string v, .int .i64 i] w fun e w' => e = .returned (.bool true) ∧ Below w.heap.size w w' := by
  have hsl := size_list s
  have hvl := size_list v
  by_cases hs : s.size ≤ 300
  · by_cases hv : v.size ≤ 300
    · have hne : nameB s.data.toList = true → s.size ≠ 0 := fun h e => by
        rw [show s.data.toList = [] from List.eq_nil_of_length_eq_zero (by omega)] at h; exact absurd h (by decide)
      rcases Int.lt_or_le i 0 with hi | hi
      · cases hnb : nameB s.data.toList
        · exact name_walk_f_neg_none s v i hs hv w hG hnb hi
        · exact name_walk_t_neg_none s v i hs hv w hG hnb (hne hnb) hi
      · obtain ⟨k, rfl⟩ : ∃ k : Nat, i = k := ⟨i.toNat, by omega⟩
        rcases Nat.lt_or_ge k s.size with hk | hk
        · obtain ⟨c, hc⟩ : ∃ c, s.data.toList[k]? = some c := ⟨_, List.getElem?_eq_getElem (by omega)⟩
          rcases Nat.lt_or_ge k v.size with hl | hl
          · obtain ⟨y, hy⟩ : ∃ y, v.data.toList[k]? = some y := ⟨_, List.getElem?_eq_getElem (by omega)⟩
            cases hnb : nameB s.data.toList <;> cases hvb : valueB v.data.toList
            · exact name_walk_f_in0_vno s v _ hs hv w hG hnb k rfl c hc y hy hvb
            · obtain ⟨z0, z1, z2, z3⟩ := value_byte hvb hy
              by_cases h32 : y.toNat = 32
              · exact name_walk_f_in0_vsp s v _ hs hv w hG hnb k rfl c hc y hy hvb ⟨z0, z1, z2⟩ h32 (by have := z3 h32; omega)
              · exact name_walk_f_in0_vok s v _ hs hv w hG hnb k rfl c hc y hy hvb ⟨z0, z1, z2⟩ h32
            · exact name_walk_t_in0_vno s v _ hs hv w hG hnb (hne hnb) k rfl c hc (name_byte hnb hc) y hy hvb
            · obtain ⟨z0, z1, z2, z3⟩ := value_byte hvb hy
              by_cases h32 : y.toNat = 32
              · exact name_walk_t_in0_vsp s v _ hs hv w hG hnb (hne hnb) k rfl c hc (name_byte hnb hc) y hy hvb ⟨z0, z1, z2⟩ h32 (by have := z3 h32; omega)
              · exact name_walk_t_in0_vok s v _ hs hv w hG hnb (hne hnb) k rfl c hc (name_byte hnb hc) y hy hvb ⟨z0, z1, z2⟩ h32
          · cases hnb : nameB s.data.toList
            · exact name_walk_f_in0_outv s v _ hs hv w hG hnb k rfl c hc hl
            · exact name_walk_t_in0_outv s v _ hs hv w hG hnb (hne hnb) k rfl c hc (name_byte hnb hc) hl
        · rcases Nat.lt_or_ge k v.size with hl | hl
          · obtain ⟨y, hy⟩ : ∃ y, v.data.toList[k]? = some y := ⟨_, List.getElem?_eq_getElem (by omega)⟩
            cases hnb : nameB s.data.toList <;> cases hvb : valueB v.data.toList
            · exact name_walk_f_out0_vno s v _ hs hv w hG hnb k rfl hk y hy hvb
            · obtain ⟨z0, z1, z2, z3⟩ := value_byte hvb hy
              by_cases h32 : y.toNat = 32
              · exact name_walk_f_out0_vsp s v _ hs hv w hG hnb k rfl hk y hy hvb ⟨z0, z1, z2⟩ h32 (by have := z3 h32; omega)
              · exact name_walk_f_out0_vok s v _ hs hv w hG hnb k rfl hk y hy hvb ⟨z0, z1, z2⟩ h32
            · exact name_walk_t_out0_vno s v _ hs hv w hG hnb (hne hnb) k rfl hk y hy hvb
            · obtain ⟨z0, z1, z2, z3⟩ := value_byte hvb hy
              by_cases h32 : y.toNat = 32
              · exact name_walk_t_out0_vsp s v _ hs hv w hG hnb (hne hnb) k rfl hk y hy hvb ⟨z0, z1, z2⟩ h32 (by have := z3 h32; omega)
              · exact name_walk_t_out0_vok s v _ hs hv w hG hnb (hne hnb) k rfl hk y hy hvb ⟨z0, z1, z2⟩ h32
          · cases hnb : nameB s.data.toList
            · exact name_walk_f_out0_outv s v _ hs hv w hG hnb k rfl hk hl
            · exact name_walk_t_out0_outv s v _ hs hv w hG hnb (hne hnb) k rfl hk hl
    · have d0 : decide ((300 : Int) < (s.size : Int)) = false := decide_eq_false (by omega)
      have d1 : decide ((300 : Int) < (v.size : Int)) = true := decide_eq_true (by omega)
      clear _ha _hb _hi hs hv hsl hvl
      go_enter Tryd.func8, Tryd.ntmps8
      go_wp2_with fail
      refine (awake13 w hG).mono ?_
      rintro e w1 ⟨rfl, hb1⟩
      go_wp2
      go_ret
      exact ⟨rfl, hb1⟩
  · have d0 : decide ((300 : Int) < (s.size : Int)) = true := decide_eq_true (by omega)
    clear _ha _hb _hi hs hsl hvl
    go_enter Tryd.func8, Tryd.ntmps8
    go_wp2_with fail
    refine (awake13 w hG).mono ?_
    rintro e w1 ⟨rfl, hb1⟩
    go_wp2
    go_ret
    exact ⟨rfl, hb1⟩

end Go.Proofs.YtgbjofahmkeapaaDoor
