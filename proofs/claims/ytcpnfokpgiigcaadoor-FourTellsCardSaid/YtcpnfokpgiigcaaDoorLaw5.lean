/- The laws of layer 5 (four), walked over the contracts. -/
import Derived.Test.YtcpnfokpgiigcaaDoorRef5L
import Derived.Test.YtcpnfokpgiigcaaDoorRow
namespace Go.Proofs.YtcpnfokpgiigcaaDoor
open Go.RowKit Go.Proofs.YtcpnfokpgiigcaaDoorW.PrintWords

theorem parse_home : parseFour [49, 50, 55, 46, 48, 46, 48, 46, 49] = (2130706433, true) := by
  have e : showFour 2130706433 = [49, 50, 55, 46, 48, 46, 48, 46, 49] := by decide +kernel
  rw [← e, parse_show _ (by decide)]; rfl
theorem parse_bad : parseFour [49, 46, 50, 46, 51, 46, 48, 52] = (0, false) := by decide +kernel
theorem show_home : showFour 2130706433 = [49, 50, 55, 46, 48, 46, 48, 46, 49] := by decide +kernel
theorem looks_a1 : looksB [97, 46, 49] = true := by decide +kernel
theorem looks_1a : looksB [49, 46, 97] = false := by decide +kernel

/-- The contracts, after what has been done since w0. -/
theorem oParse {w0 w : World} (hk : Ok w0 w) (s : ByteArray) (hs : s.size < 4294967281) : Calls Tryd.prog 15 #[.string s] w fun e w' => e = .returned (.tuple #[.int .i64 (parseFour s.data.toList).1, .bool (parseFour s.data.toList).2]) ∧ Ok w0 w' := ok_below hk (four_Parse_any s hs w)
theorem oLooks {w0 w : World} (hk : Ok w0 w) (s : ByteArray) (hs : s.size ≤ 140737488351232) : Calls Tryd.prog 21 #[.string s] w fun e w' => e = .returned (.bool (looksB s.data.toList)) ∧ Ok w0 w' := ok_drawn hk (four_Looks_any s hs w)
theorem oInner {w0 w : World} (hk : Ok w0 w) (n : Int) : Calls Tryd.prog 22 #[.int .i64 n] w fun e w' => e = .returned (.bool (decide (2130706432 ≤ n ∧ n ≤ 2147483647))) ∧ Ok w0 w' := ok_drawn hk (four_Inner_any n w)
theorem oShow {w0 w : World} (hk : Ok w0 w) (n : Int) : Calls Tryd.prog 19 #[.int .i64 n] w fun e w' => e = .returned (.string ⟨(showF n).toArray⟩) ∧ Ok w0 w' := ok_below hk (fun hG => four_Show.calls n _ w hG rfl)
theorem oPlain {w0 w : World} (hk : Ok w0 w) (s : ByteArray) (hs : s.size ≤ 140737488351232) : Calls Tryd.prog 23 #[.string s] w fun e w' => e = .returned (.bool (plainB s.data.toList)) ∧ Ok w0 w' := ok_drawn hk (deci_Plain_any s hs w)
theorem oDShow {w0 w : World} (hk : Ok w0 w) (n : Int) (h0 : 0 ≤ n) (h1 : n ≤ 9223372036854775807) : Calls Tryd.prog 24 #[.int .i64 n] w fun e w' => e = .returned (.string ⟨(digs n.toNat).toArray⟩) ∧ Ok w0 w' := ok_below hk (fun _ => deci_Show n h0 h1 w)
theorem orParse {w0 w : World} (hk : Ok w0 w) (s : ByteArray) (hs : s.size ≤ 140737488351232) : Calls Tryd.prog 16 #[.string s] w fun e w' => e = .returned (.tuple #[.int .i64 (parseFour s.data.toList).1, .bool (parseFour s.data.toList).2]) ∧ Ok w0 w' := ok_below hk (rParse_any s hs w)
theorem orLooks {w0 w : World} (hk : Ok w0 w) (s : ByteArray) (hs : s.size ≤ 140737488351232) : Calls Tryd.prog 17 #[.string s] w fun e w' => e = .returned (.bool (looksB s.data.toList)) ∧ Ok w0 w' := ok_drawn hk (rLooks_any s hs w)
theorem orInner {w0 w : World} (hk : Ok w0 w) (n : Int) : Calls Tryd.prog 18 #[.int .i64 n] w fun e w' => e = .returned (.bool (decide (2130706432 ≤ n ∧ n ≤ 2147483647))) ∧ Ok w0 w' := ok_drawn hk (rInner_any n w)
theorem orShow {w0 w : World} (hk : Ok w0 w) (n : Int) : Calls Tryd.prog 20 #[.int .i64 n] w fun e w' => e = .returned (.string ⟨(showF n).toArray⟩) ∧ Ok w0 w' := ok_below hk (fun hG => postmarkref05_Show.calls n _ w hG rfl)

set_option maxHeartbeats 1000000 in
set_option maxRecDepth 100000 in
theorem awake5 {w0 w : World} (hk : Ok w0 w) : Calls Tryd.prog 14 #[] w fun e w' => e = .returned (.bool true) ∧ Ok w0 w' := by
  have c1 := fun {w : World} (hk : Ok w0 w) => oParse hk ⟨#[49, 50, 55, 46, 48, 46, 48, 46, 49]⟩ (by decide)
  have c2 := fun {w : World} (hk : Ok w0 w) => oParse hk ⟨#[49, 46, 50, 46, 51, 46, 48, 52]⟩ (by decide)
  have c3 := fun {w : World} (hk : Ok w0 w) => oLooks hk ⟨#[97, 46, 49]⟩ (by decide)
  have c4 := fun {w : World} (hk : Ok w0 w) => oLooks hk ⟨#[49, 46, 97]⟩ (by decide)
  have c5 := fun {w : World} (hk : Ok w0 w) => oShow hk 2130706433
  simp only [parse_home, parse_bad, looks_a1, looks_1a] at c1 c2 c3 c4
  have e5 : showF 2130706433 = [49, 50, 55, 46, 48, 46, 48, 46, 49] := show_home
  rw [e5] at c5
  go_enter Tryd.func14, Tryd.ntmps14
  go_wp2_with fail
  refine (c1 hk).mono ?_
  rintro e w1 ⟨rfl, hk1⟩
  go_wp2_with fail
  refine (c2 hk1).mono ?_
  rintro e w2 ⟨rfl, hk2⟩
  go_wp2_with fail
  refine (c5 hk2).mono ?_
  rintro e w3 ⟨rfl, hk3⟩
  go_wp2_with fail
  refine (c3 hk3).mono ?_
  rintro e w4 ⟨rfl, hk4⟩
  go_wp2_with fail
  refine (c4 hk4).mono ?_
  rintro e w5 ⟨rfl, hk5⟩
  go_wp2_with fail
  refine (oInner hk5 2130706433).mono ?_
  rintro e w6 ⟨rfl, hk6⟩
  go_wp2_with fail
  refine (oInner hk6 1).mono ?_
  rintro e w7 ⟨rfl, hk7⟩
  go_wp2
  go_ret
  exact ⟨rfl, hk7⟩

set_option maxHeartbeats 1000000 in
set_option maxRecDepth 100000 in
theorem law_FourTells (s : ByteArray) (n : Int) (hs : s.size ≤ 140737488351232) (_hn : (Lit.int .i64 n).wf = true) (w : World) (hG : Good w) :
    Calls Tryd.prog 3 #[.string s, .int .i64 n] w fun e w' => e = .returned (.bool true) ∧ Below w.heap.size w w' := by
  have hk := Ok.refl hG
  by_cases hl : s.size ≤ 300
  · go_enter Tryd.func3, Tryd.ntmps3
    go_wp2_with fail
    refine (awake5 hk).mono ?_
    rintro e w1 ⟨rfl, hk1⟩
    go_wp2_with fail
    refine (oParse hk1 s (by omega)).mono ?_
    rintro e w2 ⟨rfl, hk2⟩
    go_wp2_with fail
    refine (orParse hk2 s hs).mono ?_
    rintro e w3 ⟨rfl, hk3⟩
    go_wp2_with fail
    refine (orLooks hk3 s hs).mono ?_
    rintro e w4 ⟨rfl, hk4⟩
    go_wp2_with fail
    refine (orInner hk4 n).mono ?_
    rintro e w5 ⟨rfl, hk5⟩
    go_wp2_with fail
    refine (oShow hk5 n).mono ?_
    rintro e w6 ⟨rfl, hk6⟩
    go_wp2_with fail
    refine (orShow hk6 n).mono ?_
    rintro e w7 ⟨rfl, hk7⟩
    go_wp2_with fail
    refine (oLooks hk7 s hs).mono ?_
    rintro e w8 ⟨rfl, hk8⟩
    go_wp2_with fail
    refine (oInner hk8 n).mono ?_
    rintro e w9 ⟨rfl, hk9⟩
    go_wp2
    go_ret
    exact ⟨rfl, hk9.below⟩
  · go_enter Tryd.func3, Tryd.ntmps3
    go_wp2_with fail
    refine (awake5 hk).mono ?_
    rintro e w1 ⟨rfl, hk1⟩
    go_wp2
    go_ret
    exact ⟨rfl, hk1.below⟩


theorem showF_yes {n : Int} (h0 : 0 ≤ n) (h1 : n ≤ 4294967295) : showF n = showFour n.toNat := by unfold showF; rw [if_pos ⟨h0, h1⟩]
theorem showF_no {n : Int} (h : ¬ (0 ≤ n ∧ n ≤ 4294967295)) : showF n = [] := by unfold showF; rw [if_neg h]
theorem showF_eq (m n : Int) (h0 : 0 ≤ n) (h1 : n ≤ 4294967295) : (showF m == showFour n.toNat) = (m == n) := by
  by_cases hm : 0 ≤ m ∧ m ≤ 4294967295
  · rw [showF_yes hm.1 hm.2]
    by_cases e : m = n
    · subst e; simp
    · rw [beq_eq_false_iff_ne.2 e, beq_eq_false_iff_ne.2]
      intro h; have := show_inj (by omega) (by omega) h; omega
  · rw [showF_no hm, beq_eq_false_iff_ne.2 (fun e => showFour_ne _ e.symm), beq_eq_false_iff_ne.2]
    intro e; subst e; exact hm ⟨h0, h1⟩
theorem parse_nil : parseFour [] = (0, false) := by decide +kernel

set_option maxHeartbeats 2000000 in
set_option maxRecDepth 100000 in
theorem law_FourBack (s : ByteArray) (n m : Int) (hs : s.size ≤ 140737488351232) (_hn : (Lit.int .i64 n).wf = true) (_hm : (Lit.int .i64 m).wf = true) (w : World) (hG : Good w) :
    Calls Tryd.prog 4 #[.string s, .int .i64 n, .int .i64 m] w fun e w' => e = .returned (.bool true) ∧ Below w.heap.size w w' := by
  have hk := Ok.refl hG
  by_cases hl : s.size ≤ 300
  · have cs := fun {w1 : World} (hk : Ok w w1) => oParse hk s (by omega)
    by_cases hown : 0 ≤ n ∧ n ≤ 4294967295
    · obtain ⟨h0, h1⟩ := hown
      have c1 := fun {w1 : World} (hk : Ok w w1) => oShow hk n
      rw [showF_yes h0 h1] at c1
      have c2 := fun {w1 : World} (hk : Ok w w1) => oParse hk ⟨(showFour n.toNat).toArray⟩ (by rw [size_list, mk_toList]; have := showFour_max n.toNat (by omega); omega)
      simp only [parse_show n.toNat (by omega)] at c2
      have c3 := fun {w1 : World} (hk : Ok w w1) => oLooks hk ⟨(showFour n.toNat).toArray⟩ (by rw [size_list, mk_toList]; have := showFour_max n.toNat (by omega); omega)
      simp only [looks_show] at c3
      rw [Int.toNat_of_nonneg h0] at c2
      have c4 := fun {w1 : World} (hk : Ok w w1) => oShow hk m
      have hmn := showF_eq m n h0 h1
      have hne : (showFour n.toNat).isEmpty = false := by rw [List.isEmpty_eq_false_iff]; exact showFour_ne _
      rcases parse_cases s.data.toList with hp | ⟨x, hx, hp, he⟩
      · simp only [hp] at cs
        have Hp := Lib.hid hp
        clear hp
        go_enter Tryd.func4, Tryd.ntmps4
        go_wp2_with fail
        refine (awake5 hk).mono ?_
        rintro e w1 ⟨rfl, hk1⟩
        go_wp2_with fail
        refine (c1 hk1).mono ?_
        rintro e w2 ⟨rfl, hk2⟩
        go_wp2_with fail
        refine (c2 hk2).mono ?_
        rintro e w3 ⟨rfl, hk3⟩
        go_wp2_with fail
        refine (cs hk3).mono ?_
        rintro e w4 ⟨rfl, hk4⟩
        go_wp2_with fail
        refine (c3 hk4).mono ?_
        rintro e w5 ⟨rfl, hk5⟩
        go_wp2_with fail
        refine (c4 hk5).mono ?_
        rintro e w6 ⟨rfl, hk6⟩
        go_wp2
        go_ret
        exact ⟨rfl, hk6.below⟩
      · simp only [hp] at cs
        have c5 := fun {w1 : World} (hk : Ok w w1) => oShow hk (x : Int)
        rw [showF_yes (by omega) (by omega), Int.toNat_natCast] at c5
        have hsx : (showFour x == s.toList) = true := by rw [ba_toList, he]; simp
        have Hp := Lib.hid hp
        have He := Lib.hid he
        clear hp he
        go_enter Tryd.func4, Tryd.ntmps4
        go_wp2_with fail
        refine (awake5 hk).mono ?_
        rintro e w1 ⟨rfl, hk1⟩
        go_wp2_with fail
        refine (c1 hk1).mono ?_
        rintro e w2 ⟨rfl, hk2⟩
        go_wp2_with fail
        refine (c2 hk2).mono ?_
        rintro e w3 ⟨rfl, hk3⟩
        go_wp2_with fail
        refine (cs hk3).mono ?_
        rintro e w4 ⟨rfl, hk4⟩
        go_wp2_with fail
        refine (c3 hk4).mono ?_
        rintro e w5 ⟨rfl, hk5⟩
        go_wp2_with fail
        refine (c5 hk5).mono ?_
        rintro e w6 ⟨rfl, hk6⟩
        go_wp2_with fail
        refine (c4 hk6).mono ?_
        rintro e w7 ⟨rfl, hk7⟩
        go_wp2
        go_ret
        exact ⟨rfl, hk7.below⟩
    · have c1 := fun {w1 : World} (hk : Ok w w1) => oShow hk n
      rw [showF_no hown] at c1
      have c2 := fun {w1 : World} (hk : Ok w w1) => oParse hk ⟨([] : List UInt8).toArray⟩ (by decide)
      simp only [parse_nil] at c2
      have hno : n < 0 ∨ 4294967295 < n := by omega
      clear hown
      rcases parse_cases s.data.toList with hp | ⟨x, hx, hp, he⟩
      · simp only [hp] at cs
        have Hp := Lib.hid hp
        clear hp
        rcases hno with hno | hno
        all_goals go_enter Tryd.func4, Tryd.ntmps4
        all_goals go_wp2_with fail
        all_goals refine (awake5 hk).mono ?_
        all_goals rintro e w1 ⟨rfl, hk1⟩
        all_goals go_wp2_with fail
        all_goals refine (c1 hk1).mono ?_
        all_goals rintro e w2 ⟨rfl, hk2⟩
        all_goals go_wp2_with fail
        all_goals refine (c2 hk2).mono ?_
        all_goals rintro e w3 ⟨rfl, hk3⟩
        all_goals go_wp2_with fail
        all_goals refine (cs hk3).mono ?_
        all_goals rintro e w4 ⟨rfl, hk4⟩
        all_goals go_wp2
        all_goals go_ret
        all_goals exact ⟨rfl, hk4.below⟩
      · simp only [hp] at cs
        have c5 := fun {w1 : World} (hk : Ok w w1) => oShow hk (x : Int)
        rw [showF_yes (by omega) (by omega), Int.toNat_natCast] at c5
        have hsx : (showFour x == s.toList) = true := by rw [ba_toList, he]; simp
        have Hp := Lib.hid hp
        have He := Lib.hid he
        clear hp he
        rcases hno with hno | hno
        all_goals go_enter Tryd.func4, Tryd.ntmps4
        all_goals go_wp2_with fail
        all_goals refine (awake5 hk).mono ?_
        all_goals rintro e w1 ⟨rfl, hk1⟩
        all_goals go_wp2_with fail
        all_goals refine (c1 hk1).mono ?_
        all_goals rintro e w2 ⟨rfl, hk2⟩
        all_goals go_wp2_with fail
        all_goals refine (c2 hk2).mono ?_
        all_goals rintro e w3 ⟨rfl, hk3⟩
        all_goals go_wp2_with fail
        all_goals refine (cs hk3).mono ?_
        all_goals rintro e w4 ⟨rfl, hk4⟩
        all_goals go_wp2_with fail
        all_goals refine (c5 hk4).mono ?_
        all_goals rintro e w5 ⟨rfl, hk5⟩
        all_goals go_wp2
        all_goals go_ret
        all_goals exact ⟨rfl, hk5.below⟩
  · go_enter Tryd.func4, Tryd.ntmps4
    go_wp2_with fail
    refine (awake5 hk).mono ?_
    rintro e w1 ⟨rfl, hk1⟩
    go_wp2
    go_ret
    exact ⟨rfl, hk1.below⟩

end Go.Proofs.YtcpnfokpgiigcaaDoor
