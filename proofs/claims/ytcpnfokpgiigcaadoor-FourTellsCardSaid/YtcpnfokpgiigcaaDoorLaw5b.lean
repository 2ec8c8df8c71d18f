/- More laws of layer 5 (four), walked over the contracts. -/
import Derived.Test.YtcpnfokpgiigcaaDoorLaw5
import Derived.OpenShut
namespace Go.Proofs.YtcpnfokpgiigcaaDoor
open Go.RowKit Go.Proofs.YtcpnfokpgiigcaaDoorW.PrintWords

theorem parse_dots (l : List UInt8) (h : l.count 46 ≠ 3) : parseFour l = (0, false) := by
  unfold parseFour
  rw [if_neg]
  rw [splitOn_length]; omega
theorem count_show (n : Nat) : (showFour n).count 46 = 3 := by
  have := splitOn_length 46 (showFour n)
  rw [split_show] at this
  have e : (fourParts n).length = 4 := rfl
  omega
theorem parse_zero (n : Nat) (_h : n ≤ 4294967295) : parseFour (48 :: showFour n) = (0, false) := by
  rcases parse_cases (48 :: showFour n) with h | ⟨m, _, _, e⟩
  · exact h
  · exfalso
    have hs : splitOn 46 (48 :: showFour n) = (48 :: digs (n / 16777216)) :: [digs (n / 65536 % 256), digs (n / 256 % 256), digs (n % 256)] := splitOn_miss (by decide) (split_show n)
    rw [e, split_show] at hs
    unfold fourParts at hs
    injection hs with h1 _
    have h2 := congrArg (valD 0) h1
    rw [digs_val, valD_cons] at h2
    have h3 : valD (10 * 0 + ((48 : UInt8).toNat - 48)) (digs (n / 16777216)) = n / 16777216 := digs_val _
    rw [h3] at h2
    rw [h2] at h1
    have := congrArg List.length h1
    simp at this

set_option maxHeartbeats 2000000 in
set_option maxRecDepth 100000 in
theorem law_FourParts (a b c d : Int) (ha : (Lit.int .u8 a).wf = true) (hb : (Lit.int .u8 b).wf = true) (hc : (Lit.int .u8 c).wf = true) (hd : (Lit.int .u8 d).wf = true) (w : World) (hG : Good w) :
    Calls Tryd.prog 5 #[.int .u8 a, .int .u8 b, .int .u8 c, .int .u8 d] w fun e w' => e = .returned (.bool true) ∧ Below w.heap.size w w' := by
  have hk := Ok.refl hG
  obtain ⟨a0, a1⟩ := bounds_u8 ha
  obtain ⟨b0, b1⟩ := bounds_u8 hb
  obtain ⟨c0, c1⟩ := bounds_u8 hc
  obtain ⟨d0, d1⟩ := bounds_u8 hd
  clear ha hb hc hd
  have h0 : 0 ≤ (a * 16777216 + b * 65536 + c * 256 + d) := by omega
  have h1 : (a * 16777216 + b * 65536 + c * 256 + d) ≤ 4294967295 := by omega
  have hlen := showFour_max (a * 16777216 + b * 65536 + c * 256 + d).toNat (by omega)
  have sz : ∀ t : ByteArray, t.data.toList.length ≤ 100 → t.size < 4294967281 := fun t ht => by rw [size_list]; omega
  have c1 := fun {w1 : World} (hk : Ok w w1) => oShow hk (a * 16777216 + b * 65536 + c * 256 + d)
  rw [showF_yes h0 h1] at c1
  have c2 := fun {w1 : World} (hk : Ok w w1) => oParse hk ⟨(showFour (a * 16777216 + b * 65536 + c * 256 + d).toNat).toArray⟩ (sz _ (by rw [mk_toList]; omega))
  simp only [parse_show (a * 16777216 + b * 65536 + c * 256 + d).toNat (by omega)] at c2
  rw [Int.toNat_of_nonneg h0] at c2
  have c3 := fun {w1 : World} (hk : Ok w w1) => oParse hk ((⟨(showFour (a * 16777216 + b * 65536 + c * 256 + d).toNat).toArray⟩ : ByteArray) ++ ⟨#[46, 48]⟩) (sz _ (by simp only [ByteArray.data_append, Array.toList_append]; simp; omega))
  have c4 := fun {w1 : World} (hk : Ok w w1) => oParse hk ((⟨(showFour (a * 16777216 + b * 65536 + c * 256 + d).toNat).toArray⟩ : ByteArray) ++ ⟨#[46]⟩) (sz _ (by simp only [ByteArray.data_append, Array.toList_append]; simp; omega))
  have c5 := fun {w1 : World} (hk : Ok w w1) => oParse hk ((⟨#[46]⟩ : ByteArray) ++ ⟨(showFour (a * 16777216 + b * 65536 + c * 256 + d).toNat).toArray⟩) (sz _ (by simp only [ByteArray.data_append, Array.toList_append]; simp; omega))
  have c6 := fun {w1 : World} (hk : Ok w w1) => oParse hk ((⟨#[48]⟩ : ByteArray) ++ ⟨(showFour (a * 16777216 + b * 65536 + c * 256 + d).toNat).toArray⟩) (sz _ (by simp only [ByteArray.data_append, Array.toList_append]; simp; omega))
  have p3 : parseFour ((⟨(showFour (a * 16777216 + b * 65536 + c * 256 + d).toNat).toArray⟩ : ByteArray) ++ ⟨#[46, 48]⟩).data.toList = (0, false) := parse_dots _ (by rw [ByteArray.data_append, Array.toList_append, List.count_append]; rw [count_show]; decide)
  have p4 : parseFour ((⟨(showFour (a * 16777216 + b * 65536 + c * 256 + d).toNat).toArray⟩ : ByteArray) ++ ⟨#[46]⟩).data.toList = (0, false) := parse_dots _ (by rw [ByteArray.data_append, Array.toList_append, List.count_append]; rw [count_show]; decide)
  have p5 : parseFour ((⟨#[46]⟩ : ByteArray) ++ ⟨(showFour (a * 16777216 + b * 65536 + c * 256 + d).toNat).toArray⟩).data.toList = (0, false) := parse_dots _ (by rw [ByteArray.data_append, Array.toList_append, List.count_append]; rw [count_show]; decide)
  have p6 : parseFour ((⟨#[48]⟩ : ByteArray) ++ ⟨(showFour (a * 16777216 + b * 65536 + c * 256 + d).toNat).toArray⟩).data.toList = (0, false) := by
    rw [ByteArray.data_append, Array.toList_append]
    exact parse_zero (a * 16777216 + b * 65536 + c * 256 + d).toNat (by omega)
  rw [p3] at c3
  rw [p4] at c4
  rw [p5] at c5
  rw [p6] at c6
  have hin : decide (2130706432 ≤ (a * 16777216 + b * 65536 + c * 256 + d) ∧ (a * 16777216 + b * 65536 + c * 256 + d) ≤ 2147483647) = (a == 127) := by
    by_cases e : a = 127
    · rw [beq_iff_eq.2 e]; exact decide_eq_true (by omega)
    · rw [beq_eq_false_iff_ne.2 e]; exact decide_eq_false (by omega)
  clear p3 p4 p5 p6 sz h0 h1
  go_enter Tryd.func5, Tryd.ntmps5
  go_wp2_with fail
  refine (awake5 hk).mono ?_
  rintro e w1 ⟨rfl, hk1⟩
  go_wp2_with fail
  refine (c1 hk1).mono ?_
  rintro e w2 ⟨rfl, hk2⟩
  go_wp2_with fail
  refine (c2 hk2).mono ?_
  rintro e w3 ⟨rfl, hk3⟩
  go_wp2_with fail
  refine (c3 hk3).mono ?_
  rintro e w4 ⟨rfl, hk4⟩
  go_wp2_with fail
  refine (c4 hk4).mono ?_
  rintro e w5 ⟨rfl, hk5⟩
  go_wp2_with fail
  refine (c5 hk5).mono ?_
  rintro e w6 ⟨rfl, hk6⟩
  go_wp2_with fail
  refine (c6 hk6).mono ?_
  rintro e w7 ⟨rfl, hk7⟩
  go_wp2_with fail
  refine (oInner hk7 _).mono ?_
  rintro e w8 ⟨rfl, hk8⟩
  rw [hin]
  go_wp2
  go_ret
  exact ⟨rfl, hk8.below⟩


theorem looks_parse (l : List UInt8) (h : (parseFour l).2 = true) : looksB l = true := by
  rcases parse_cases l with e | ⟨n, _, _, e⟩
  · rw [e] at h; cases h
  · rw [e]; exact looks_show n

set_option maxHeartbeats 2000000 in
set_option maxRecDepth 100000 in
theorem law_FourLooks (a b : ByteArray) (ha : a.size ≤ 140737488351232) (hb : b.size ≤ 140737488351232) (w : World) (hG : Good w) :
    Calls Tryd.prog 6 #[.string a, .string b] w fun e w' => e = .returned (.bool true) ∧ Below w.heap.size w w' := by
  have hk := Ok.refl hG
  by_cases hla : a.size ≤ 150
  · by_cases hlb : b.size ≤ 150
    · obtain ⟨x, y, hp⟩ : ∃ x y, Hid (parseFour a.data.toList = (x, y)) := ⟨_, _, rfl⟩
      have c1 := fun {w1 : World} (hk : Ok w w1) => oParse hk a (by omega)
      rw [hp.out] at c1
      have c2 := fun {w1 : World} (hk : Ok w w1) => oLooks hk a (by omega)
      have hy : Hid (y = true → looksB a.data.toList = true) := fun h => looks_parse _ (by rw [hp.out]; exact h)
      cases y
      · clear c2 hy
        go_enter Tryd.func6, Tryd.ntmps6
        go_wp2_with fail
        refine (awake5 hk).mono ?_
        rintro e w1 ⟨rfl, hk1⟩
        go_wp2_with fail
        refine (c1 hk1).mono ?_
        rintro e w2 ⟨rfl, hk2⟩
        go_wp2_with fail
        go_loopw [8] (fun i wr => ∃ k : Nat, i = .int .i64 k ∧ k ≤ b.size ∧ Hid ((46 : UInt8) ∉ b.data.toList.take k) ∧ Ok w wr) (fun i _ => b.size - (intOf i).toNat)
        case atStart => exact ⟨0, rfl, Nat.zero_le _, by show _ ∉ _; simp, hk2⟩
        case round =>
          obtain ⟨k, rfl, hkb, hno, hkr⟩ := hrel
          by_cases hlt : k < b.size
          · obtain ⟨x1, l, hcl⟩ : ∃ c l, b.data.toList.drop k = c :: l := by
              cases h : b.data.toList.drop k with
              | nil => exact absurd (drop_done h) (by omega)
              | cons c l => exact ⟨c, l, rfl⟩
            have hg := get_cons hcl hlt
            have htk : b.data.toList.take (k + 1) = b.data.toList.take k ++ [x1] := by
              have h2 : k < b.data.toList.length := by rw [← size_list]; exact hlt
              rw [List.drop_eq_getElem_cons h2] at hcl
              injection hcl with h3 _
              rw [List.take_succ_eq_append_getElem h2, h3]
            have Htk := Lib.hid htk
            clear htk hcl
            by_cases hx : x1 = 46
            · have hx1 : ((x1.toNat : Int) == 46) = true := by rw [hx]; decide
              have HX := Lib.hid hx
              clear hx
              go_wp2
              go_ret
              exact ⟨rfl, hkr.below⟩
            · have hx1 : ((x1.toNat : Int) == 46) = false := beq_eq_false_iff_ne.2 (fun e => hx (UInt8.toNat_inj.1 (by have : (46 : UInt8).toNat = 46 := rfl; omega)))
              have HX := Lib.hid hx
              clear hx
              go_wp2
              go_roundw
              case rel => exact ⟨k + 1, by go_num, by omega, by show _ ∉ _; rw [Htk.out]; simp only [List.mem_append, List.mem_singleton, not_or]; exact ⟨hno.out, fun e => HX.out e.symm⟩, hkr⟩
              case measure => simp [intOf]; omega
          · have hk3 : k = b.size := by omega
            have hnb : (46 : UInt8) ∉ b.data.toList := by
              have := hno.out
              rw [List.take_of_length_le (by rw [← size_list]; omega)] at this
              exact this
            have e1 : looksB b.data.toList = plainB b.data.toList := by unfold looksB; rw [behind_none hnb]
            have e2 : looksB ((a ++ ⟨#[46]⟩) ++ b).data.toList = plainB b.data.toList := by
              unfold looksB
              rw [ByteArray.data_append, ByteArray.data_append, Array.toList_append, Array.toList_append, List.append_assoc]
              exact congrArg plainB (behind_app hnb)
            have d1 := fun {w1 : World} (hk : Ok w w1) => oLooks hk ((a ++ ⟨#[46]⟩) ++ b) (by rw [ByteArray.size_append, ByteArray.size_append]; show a.size + 1 + b.size ≤ _; omega)
            rw [e2] at d1
            have d2 := fun {w1 : World} (hk : Ok w w1) => oLooks hk b hb
            rw [e1] at d2
            have d3 := fun {w1 : World} (hk : Ok w w1) => oPlain hk b hb
            have hk4 : b.size ≤ k := by omega
            have hsz : (a ++ (⟨#[46]⟩ : ByteArray)).size = a.size + 1 := by rw [ByteArray.size_append]; rfl
            clear hk3 hnb e1 e2 hno
            go_wp2_with fail
            refine (d1 hkr).mono ?_
            rintro e w1 ⟨rfl, hk1⟩
            go_wp2_with fail
            refine (d3 hk1).mono ?_
            rintro e w2 ⟨rfl, hk2⟩
            go_wp2_with fail
            refine (d2 hk2).mono ?_
            rintro e w3 ⟨rfl, hk3⟩
            go_wp2_with fail
            refine (d3 hk3).mono ?_
            rintro e w4 ⟨rfl, hk4⟩
            go_wp2
            go_ret
            exact ⟨rfl, hk4.below⟩
      · rw [hy.out rfl] at c2
        go_enter Tryd.func6, Tryd.ntmps6
        go_wp2_with fail
        refine (awake5 hk).mono ?_
        rintro e w1 ⟨rfl, hk1⟩
        go_wp2_with fail
        refine (c1 hk1).mono ?_
        rintro e w2 ⟨rfl, hk2⟩
        go_wp2_with fail
        go_loopw [8] (fun i wr => ∃ k : Nat, i = .int .i64 k ∧ k ≤ b.size ∧ Hid ((46 : UInt8) ∉ b.data.toList.take k) ∧ Ok w wr) (fun i _ => b.size - (intOf i).toNat)
        case atStart => exact ⟨0, rfl, Nat.zero_le _, by show _ ∉ _; simp, hk2⟩
        case round =>
          obtain ⟨k, rfl, hkb, hno, hkr⟩ := hrel
          by_cases hlt : k < b.size
          · obtain ⟨x1, l, hcl⟩ : ∃ c l, b.data.toList.drop k = c :: l := by
              cases h : b.data.toList.drop k with
              | nil => exact absurd (drop_done h) (by omega)
              | cons c l => exact ⟨c, l, rfl⟩
            have hg := get_cons hcl hlt
            have htk : b.data.toList.take (k + 1) = b.data.toList.take k ++ [x1] := by
              have h2 : k < b.data.toList.length := by rw [← size_list]; exact hlt
              rw [List.drop_eq_getElem_cons h2] at hcl
              injection hcl with h3 _
              rw [List.take_succ_eq_append_getElem h2, h3]
            have Htk := Lib.hid htk
            clear htk hcl
            by_cases hx : x1 = 46
            · have hx1 : ((x1.toNat : Int) == 46) = true := by rw [hx]; decide
              have HX := Lib.hid hx
              clear hx
              go_wp2_with fail
              refine (c2 hkr).mono ?_
              rintro e w1 ⟨rfl, hk1⟩
              go_wp2
              go_ret
              exact ⟨rfl, hk1.below⟩
            · have hx1 : ((x1.toNat : Int) == 46) = false := beq_eq_false_iff_ne.2 (fun e => hx (UInt8.toNat_inj.1 (by have : (46 : UInt8).toNat = 46 := rfl; omega)))
              have HX := Lib.hid hx
              clear hx
              go_wp2
              go_roundw
              case rel => exact ⟨k + 1, by go_num, by omega, by show _ ∉ _; rw [Htk.out]; simp only [List.mem_append, List.mem_singleton, not_or]; exact ⟨hno.out, fun e => HX.out e.symm⟩, hkr⟩
              case measure => simp [intOf]; omega
          · have hk3 : k = b.size := by omega
            have hnb : (46 : UInt8) ∉ b.data.toList := by
              have := hno.out
              rw [List.take_of_length_le (by rw [← size_list]; omega)] at this
              exact this
            have e1 : looksB b.data.toList = plainB b.data.toList := by unfold looksB; rw [behind_none hnb]
            have e2 : looksB ((a ++ ⟨#[46]⟩) ++ b).data.toList = plainB b.data.toList := by
              unfold looksB
              rw [ByteArray.data_append, ByteArray.data_append, Array.toList_append, Array.toList_append, List.append_assoc]
              exact congrArg plainB (behind_app hnb)
            have d1 := fun {w1 : World} (hk : Ok w w1) => oLooks hk ((a ++ ⟨#[46]⟩) ++ b) (by rw [ByteArray.size_append, ByteArray.size_append]; show a.size + 1 + b.size ≤ _; omega)
            rw [e2] at d1
            have d2 := fun {w1 : World} (hk : Ok w w1) => oLooks hk b hb
            rw [e1] at d2
            have d3 := fun {w1 : World} (hk : Ok w w1) => oPlain hk b hb
            have hk4 : b.size ≤ k := by omega
            have hsz : (a ++ (⟨#[46]⟩ : ByteArray)).size = a.size + 1 := by rw [ByteArray.size_append]; rfl
            clear hk3 hnb e1 e2 hno
            go_wp2_with fail
            refine (c2 hkr).mono ?_
            rintro e w1 ⟨rfl, hk1⟩
            go_wp2_with fail
            refine (d1 hk1).mono ?_
            rintro e w2 ⟨rfl, hk2⟩
            go_wp2_with fail
            refine (d3 hk2).mono ?_
            rintro e w3 ⟨rfl, hk3⟩
            go_wp2_with fail
            refine (d2 hk3).mono ?_
            rintro e w4 ⟨rfl, hk4⟩
            go_wp2_with fail
            refine (d3 hk4).mono ?_
            rintro e w5 ⟨rfl, hk5⟩
            go_wp2
            go_ret
            exact ⟨rfl, hk5.below⟩
    · go_enter Tryd.func6, Tryd.ntmps6
      go_wp2_with fail
      refine (awake5 hk).mono ?_
      rintro e w1 ⟨rfl, hk1⟩
      go_wp2
      go_ret
      exact ⟨rfl, hk1.below⟩
  · go_enter Tryd.func6, Tryd.ntmps6
    go_wp2_with fail
    refine (awake5 hk).mono ?_
    rintro e w1 ⟨rfl, hk1⟩
    go_wp2
    go_ret
    exact ⟨rfl, hk1.below⟩

/-- All but the last part of what is shown; of the next number it is the same, if there is no carry. -/
theorem show_pre (n : Nat) (_h : n < 4294967295) : ∃ P, showFour n = P ++ digs (n % 256) ∧ (n % 256 ≠ 255 → showFour (n + 1) = P ++ digs (n % 256 + 1)) := by
  refine ⟨digs (n / 16777216) ++ 46 :: (digs (n / 65536 % 256) ++ 46 :: (digs (n / 256 % 256) ++ [46])), by simp [showFour, fourParts, List.intercalate], fun h => ?_⟩
  have e1 : (n + 1) / 16777216 = n / 16777216 := by omega
  have e2 : (n + 1) / 65536 % 256 = n / 65536 % 256 := by omega
  have e3 : (n + 1) / 256 % 256 = n / 256 % 256 := by omega
  have e4 : (n + 1) % 256 = n % 256 + 1 := by omega
  simp [showFour, fourParts, List.intercalate, e1, e2, e3, e4]
theorem digs3' (n : Nat) (h : n ≤ 256) : (digs n).length ≤ 3 := by
  have := revDigs_len 2 n (by omega)
  unfold digs; rw [List.length_reverse]; exact this

set_option maxHeartbeats 2000000 in
set_option maxRecDepth 100000 in
theorem law_FourOrder (n : Int) (hn : (Lit.int .i64 n).wf = true) (w : World) (hG : Good w) :
    Calls Tryd.prog 7 #[.int .i64 n] w fun e w' => e = .returned (.bool true) ∧ Below w.heap.size w w' := by
  have hk := Ok.refl hG
  obtain ⟨n0, n1⟩ := bounds_i64 hn
  by_cases h0 : 0 ≤ n
  · by_cases h1 : n < 4294967295
    · obtain ⟨P, hP1, hP2⟩ := show_pre n.toNat (by omega)
      have hm : (n % 256).toNat = n.toNat % 256 := by omega
      have hm1 : (n % 256 + 1).toNat = n.toNat % 256 + 1 := by omega
      have hm2 : (n + 1).toNat = n.toNat + 1 := by omega
      have c1 := fun {w1 : World} (hk : Ok w w1) => oShow hk n
      have c2 := fun {w1 : World} (hk : Ok w w1) => oShow hk (n + 1)
      have c3 := fun {w1 : World} (hk : Ok w w1) => oDShow hk (n % 256) (by omega) (by omega)
      have c4 := fun {w1 : World} (hk : Ok w w1) => oDShow hk (n % 256 + 1) (by omega) (by omega)
      rw [showF_yes h0 (by omega)] at c1
      rw [showF_yes (by omega) (by omega), hm2] at c2
      rw [hm] at c3
      rw [hm1] at c4
      have hmin := showFour_min n.toNat
      have hmax := showFour_max n.toNat (by omega)
      have hx4 := digs3 (n.toNat % 256 + 1)
      have hd3 := digs3 (n.toNat % 256) (by omega)
      have hpos : 1 ≤ P.length := by
        have := digs_ne (n.toNat / 16777216)
        rw [hP1, List.length_append] at hmin; omega
      have hn4 : (digs (n.toNat % 256 + 1)).length ≤ 3 := digs3' _ (by omega)
      generalize hS : showFour n.toNat = S at *
      generalize hL : digs (n.toNat % 256) = L at *
      generalize hX : digs (n.toNat % 256 + 1) = X at *
      generalize hS2 : showFour (n.toNat + 1) = S2 at *
      have hsl : S.length = P.length + L.length := by rw [hP1, List.length_append]
      have hsub : (S.length : Int) - (L.length : Int) = (P.length : Int) := by omega
      have hx1 : (((⟨S.toArray⟩ : ByteArray).extract P.length S.length).toList == L) = true := by
        rw [ba_toList]
        have e : (⟨S.toArray⟩ : ByteArray).size = S.length := by rw [size_list, mk_toList]
        rw [← e, Lib.extract_to_end, mk_toList, hP1, List.drop_left]; simp
      have Hsl := Lib.hid hsl
      have HP := Lib.hid hP1
      have HS := Lib.hid hS
      have HL := Lib.hid hL
      have HX := Lib.hid hX
      have HS2 := Lib.hid hS2
      have hm5 : S.length ≤ 15 := hmax
      have hm6 : 7 ≤ S.length := hmin
      clear hsl hP1 hS hL hX hS2 hm hm1 hm2 hx4
      by_cases h255 : n % 256 = 255
      · have h25 : (n % 256 == 255) = true := beq_iff_eq.2 h255
        clear h255 hP2
        go_enter Tryd.func7, Tryd.ntmps7
        go_wp2_with fail
        refine (awake5 hk).mono ?_
        rintro e w1 ⟨rfl, hk1⟩
        go_wp2_with fail
        refine (c1 hk1).mono ?_
        rintro e w2 ⟨rfl, hk2⟩
        go_wp2_with fail
        refine (c2 hk2).mono ?_
        rintro e w3 ⟨rfl, hk3⟩
        go_wp2_with fail
        refine (c3 hk3).mono ?_
        rintro e w4 ⟨rfl, hk4⟩
        go_wp2_with fail
        refine (c4 hk4).mono ?_
        rintro e w5 ⟨rfl, hk5⟩
        go_wp2
        go_ret
        exact ⟨rfl, hk5.below⟩
      · have h25 : (n % 256 == 255) = false := beq_eq_false_iff_ne.2 h255
        have hS3 := hP2 (by omega)
        have hx2 : (P ++ X == (((⟨S.toArray⟩ : ByteArray).extract 0 P.length) ++ (⟨X.toArray⟩ : ByteArray)).toList) = true := by
          rw [ba_toList, ByteArray.data_append, Array.toList_append, Lib.extract_from_zero, mk_toList, mk_toList, HP.out, List.take_left]; simp
        clear h255 hP2
        go_enter Tryd.func7, Tryd.ntmps7
        go_wp2_with fail
        refine (awake5 hk).mono ?_
        rintro e w1 ⟨rfl, hk1⟩
        go_wp2_with fail
        refine (c1 hk1).mono ?_
        rintro e w2 ⟨rfl, hk2⟩
        go_wp2_with fail
        refine (c2 hk2).mono ?_
        rintro e w3 ⟨rfl, hk3⟩
        go_wp2_with fail
        refine (c3 hk3).mono ?_
        rintro e w4 ⟨rfl, hk4⟩
        go_wp2_with fail
        refine (c4 hk4).mono ?_
        rintro e w5 ⟨rfl, hk5⟩
        go_wp2
        go_ret
        exact ⟨rfl, hk5.below⟩
    · go_enter Tryd.func7, Tryd.ntmps7
      go_wp2_with fail
      refine (awake5 hk).mono ?_
      rintro e w1 ⟨rfl, hk1⟩
      go_wp2
      go_ret
      exact ⟨rfl, hk1.below⟩
  · go_enter Tryd.func7, Tryd.ntmps7
    go_wp2_with fail
    refine (awake5 hk).mono ?_
    rintro e w1 ⟨rfl, hk1⟩
    go_wp2
    go_ret
    exact ⟨rfl, hk1.below⟩

end Go.Proofs.YtcpnfokpgiigcaaDoor
