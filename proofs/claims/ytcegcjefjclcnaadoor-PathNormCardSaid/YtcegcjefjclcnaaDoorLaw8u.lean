/- The laws PathUp and PathParse, walked over the contracts. -/
import Derived.Test.YtcegcjefjclcnaaDoorLaw8
import Derived.Test.YtcegcjefjclcnaaDoorEncP
import Derived.OpenShut
namespace Go.Proofs.YtcegcjefjclcnaaDoor
open Go.RowKit Go.Proofs.YtcegcjefjclcnaaDoorW.PrintWords

theorem parse_slash {X : List UInt8} (hX : X.length ≤ 300000) : parseL (47 :: X) = normR [] (splitOn 47 (encode3 X)) := by
  have h := pathSplit_small (l := 47 :: X)
  unfold parseL
  have e : pathSplit (47 :: X) = splitOn 47 (encode3 X) := rfl
  refine (normL_eq (fun x hx => ?_)).trans (by rw [e])
  rw [e] at hx
  have h1 := encB_len set3 X
  have h2 := splitOn_le 47 (encode3 X) x hx
  have h3 : (encode3 X).length = (encB set3 X).length := rfl
  omega
theorem parse_len {l : List UInt8} (hl : l.length ≤ 300000) : (parseL l).length ≤ 1000000 := by
  have h := pathSplit_small hl
  unfold parseL
  rw [normL_eq h.2]
  have := normR_len (pathSplit l) []
  have := h.1
  simp at *
  omega
theorem split_ne2 (X : List UInt8) : splitOn 47 X ≠ [] := by
  obtain ⟨p, ps, e⟩ := splitOn_ne 47 X
  rw [e]; exact List.cons_ne_nil _ _
theorem parse_up {a s : List UInt8} (ha : (47 : UInt8) ∉ a) (hd : dotsN a = 0) (hl : a.length ≤ 100) (hs : s.length ≤ 100) :
    parseL (47 :: (a ++ 47 :: ([46, 46] ++ 47 :: s))) = parseL (47 :: s) := by
  rw [parse_slash (by simp; omega), parse_slash (by omega), split_enc ha, split_enc (by decide)]
  exact normR_up (by rw [enc_dots]; exact hd) (by rw [enc_dots]; decide +kernel) (split_ne2 _) _
theorem parse_dot {s : List UInt8} (hs : s.length ≤ 100) : parseL (47 :: ([46] ++ 47 :: s)) = parseL (47 :: s) := by
  rw [parse_slash (by simp; omega), parse_slash (by omega), split_enc (by decide)]
  exact normR_dot (by rw [enc_dots]; decide +kernel) (split_ne2 _) _
theorem parse_top {s : List UInt8} (hs : s.length ≤ 100) : parseL (47 :: ([46, 46] ++ 47 :: ([37, 50, 101, 37, 50, 69] ++ 47 :: s))) = parseL (47 :: s) := by
  rw [parse_slash (by simp; omega), parse_slash (by omega), split_enc (by decide), split_enc (by decide)]
  rw [normR_top (by rw [enc_dots]; decide +kernel) (by simp), normR_top (by rw [enc_dots]; decide +kernel) (split_ne2 _)]
/-- A byte of a text, and what stands ahead of it. -/
theorem byte_step {s : ByteArray} {k : Nat} (hlt : k < s.size) : ∃ x : UInt8, s[k] = x ∧ s.data.toList.take (k + 1) = s.data.toList.take k ++ [x] := by
  have h2 : k < s.data.toList.length := by rw [← size_list]; exact hlt
  exact ⟨s[k], rfl, List.take_succ_eq_append_getElem h2⟩
theorem cat4 (a s : ByteArray) (x y : List UInt8) : ((((⟨x.toArray⟩ : ByteArray) ++ a) ++ ⟨y.toArray⟩) ++ s).data.toList = x ++ a.data.toList ++ y ++ s.data.toList := by
  simp [ByteArray.data_append]

set_option maxHeartbeats 4000000 in
set_option maxRecDepth 100000 in
theorem law_PathUp (a s : ByteArray) (ha : a.size ≤ 140737488351232) (hs : s.size ≤ 140737488351232) (w : World) (hG : Good w) :
    Calls Tryd.prog 8 #[.string a, .string s] w fun e w' => e = .returned (.bool true) ∧ Below w.heap.size w w' := by
  have hk := Ok.refl hG
  by_cases hla : a.size ≤ 100
  · by_cases hls : s.size ≤ 100
    · have cd := fun w => path_Dots_any a (by omega) w
      by_cases hd : dotsN a.data.toList = 0
      · rw [hd] at cd
        have z1 : (⟨#[47]⟩ : ByteArray).size = 1 := rfl
        have z2 : (⟨#[47, 46, 46, 47]⟩ : ByteArray).size = 4 := rfl
        have z3 : (⟨#[47, 46, 47]⟩ : ByteArray).size = 3 := rfl
        have z4 : (⟨#[47, 46, 46, 47, 37, 50, 101, 37, 50, 69, 47]⟩ : ByteArray).size = 11 := rfl
        have hla' : a.data.toList.length ≤ 100 := by rw [← size_list]; exact hla
        have hls' : s.data.toList.length ≤ 100 := by rw [← size_list]; exact hls
        have cw := fun w hG => path_Parse_any ((⟨#[47]⟩ : ByteArray) ++ s) (by rw [ByteArray.size_append]; omega) w hG
        have ew : parseL (((⟨#[47]⟩ : ByteArray) ++ s).data.toList) = parseL (47 :: s.data.toList) := by simp [ByteArray.data_append]
        have c1 := fun w hG => path_Parse_any ((((⟨#[47]⟩ : ByteArray) ++ a) ++ ⟨#[47, 46, 46, 47]⟩) ++ s) (by simp only [ByteArray.size_append]; omega) w hG
        have c2 := fun w hG => path_Parse_any ((⟨#[47, 46, 47]⟩ : ByteArray) ++ s) (by rw [ByteArray.size_append]; omega) w hG
        have e2 : parseL (((⟨#[47, 46, 47]⟩ : ByteArray) ++ s).data.toList) = parseL (47 :: s.data.toList) := by
          rw [← parse_dot hls']; simp [ByteArray.data_append]
        have c3 := fun w hG => path_Parse_any ((⟨#[47, 46, 46, 47, 37, 50, 101, 37, 50, 69, 47]⟩ : ByteArray) ++ s) (by rw [ByteArray.size_append]; omega) w hG
        have e3 : parseL (((⟨#[47, 46, 46, 47, 37, 50, 101, 37, 50, 69, 47]⟩ : ByteArray) ++ s).data.toList) = parseL (47 :: s.data.toList) := by
          rw [← parse_top hls']; simp [ByteArray.data_append]
        have e1 : Hid ((47 : UInt8) ∉ a.data.toList → parseL (((((⟨#[47]⟩ : ByteArray) ++ a) ++ ⟨#[47, 46, 46, 47]⟩) ++ s).data.toList) = parseL (47 :: s.data.toList)) := fun h => by
          rw [← parse_up h hd hla' hls']; simp [ByteArray.data_append]
        have hlen : (parseL (47 :: s.data.toList)).length ≤ 1000000 := parse_len (by simp; omega)
        rw [ew] at cw
        rw [e2] at c2
        rw [e3] at c3
        generalize hW : parseL (47 :: s.data.toList) = W at *
        clear hW ew e2 e3 hd
        go_enter Tryd.func8, Tryd.ntmps8
        go_wp2_with fail
        refine (awake8 hk).mono ?_
        rintro e w1 ⟨rfl, hk1⟩
        go_wp2_with fail
        refine (cd w1).mono ?_
        rintro e w2 ⟨rfl, hb2⟩
        have hk2 := hk1.step hb2
        go_wp2_with fail
        go_loopw [6] (fun i wr => ∃ k : Nat, i = .int .i64 k ∧ k ≤ a.size ∧ Hid ((47 : UInt8) ∉ a.data.toList.take k) ∧ Ok w wr) (fun i _ => a.size - (intOf i).toNat)
        case atStart => exact ⟨0, rfl, Nat.zero_le _, by show _ ∉ _; simp, hk2⟩
        case round =>
          obtain ⟨k, rfl, hkb, hno, hkr⟩ := hrel
          by_cases hlt : k < a.size
          · obtain ⟨x, hg, htk⟩ := byte_step hlt
            have Htk := Lib.hid htk
            clear htk
            by_cases hx : x = 47
            · have hx1 : ((x.toNat : Int) == 47) = true := by rw [hx]; decide
              have HX := Lib.hid hx
              clear hx
              go_wp2
              go_ret
              exact ⟨rfl, hkr.below⟩
            · have hx1 : ((x.toNat : Int) == 47) = false := beq_eq_false_iff_ne.2 (fun e => hx (UInt8.toNat_inj.1 (by have : (47 : UInt8).toNat = 47 := rfl; omega)))
              have HX := Lib.hid hx
              clear hx
              go_wp2
              go_roundw
              case rel => exact ⟨k + 1, by go_num, by omega, by show _ ∉ _; rw [Htk.out]; simp only [List.mem_append, List.mem_singleton, not_or]; exact ⟨hno.out, fun e => HX.out e.symm⟩, hkr⟩
              case measure => simp [intOf]; omega
          · have hnb : (47 : UInt8) ∉ a.data.toList := by
              have := hno.out
              rw [List.take_of_length_le (by rw [← size_list]; omega)] at this
              exact this
            have e1' := e1.out hnb
            rw [e1'] at c1
            have hk4 : a.size ≤ k := by omega
            clear hnb e1 e1' hno cd
            go_wp2_with fail
            refine (cw wr hkr.good).mono ?_
            rintro e w3 ⟨v3, rfl, ho3, hb3⟩
            have hk3 := hkr.step hb3
            go_wp2_with fail
            refine (c1 w3 hk3.good).mono ?_
            rintro e w4 ⟨v4, rfl, ho4, hb4⟩
            have hk4 := hk3.step hb4
            have ho34 := row_below ho3 hb4
            have d1 := Same_any v4 v3 W W hlen hlen w4 (texts_own ho4 (Nat.le_refl _)).1 (texts_own ho34 (Nat.le_refl _)).1
            rw [beq_self_eq_true] at d1
            go_wp2_with fail
            refine d1.mono ?_
            rintro e w5 ⟨rfl, hb5⟩
            have hk5 := hk4.step hb5
            have ho35 := row_below ho34 hb5
            go_wp2_with fail
            refine (c2 w5 hk5.good).mono ?_
            rintro e w6 ⟨v6, rfl, ho6, hb6⟩
            have hk6 := hk5.step hb6
            have ho36 := row_below ho35 hb6
            have d2 := Same_any v6 v3 W W hlen hlen w6 (texts_own ho6 (Nat.le_refl _)).1 (texts_own ho36 (Nat.le_refl _)).1
            rw [beq_self_eq_true] at d2
            go_wp2_with fail
            refine d2.mono ?_
            rintro e w7 ⟨rfl, hb7⟩
            have hk7 := hk6.step hb7
            have ho37 := row_below ho36 hb7
            go_wp2_with fail
            refine (c3 w7 hk7.good).mono ?_
            rintro e w8 ⟨v8, rfl, ho8, hb8⟩
            have hk8 := hk7.step hb8
            have ho38 := row_below ho37 hb8
            have d3 := Same_any v8 v3 W W hlen hlen w8 (texts_own ho8 (Nat.le_refl _)).1 (texts_own ho38 (Nat.le_refl _)).1
            rw [beq_self_eq_true] at d3
            go_wp2_with fail
            refine d3.mono ?_
            rintro e w9 ⟨rfl, hb9⟩
            have hk9 := hk8.step hb9
            go_wp2
            go_ret
            exact ⟨rfl, hk9.below⟩
      · have hd1 : (0 : Int) < dotsN a.data.toList := by omega
        generalize dotsN a.data.toList = d at *
        go_enter Tryd.func8, Tryd.ntmps8
        go_wp2_with fail
        refine (awake8 hk).mono ?_
        rintro e w1 ⟨rfl, hk1⟩
        go_wp2_with fail
        refine (cd w1).mono ?_
        rintro e w2 ⟨rfl, hb2⟩
        have hk2 := hk1.step hb2
        go_wp2
        go_ret
        exact ⟨rfl, hk2.below⟩
    · go_enter Tryd.func8, Tryd.ntmps8
      go_wp2_with fail
      refine (awake8 hk).mono ?_
      rintro e w1 ⟨rfl, hk1⟩
      go_wp2
      go_ret
      exact ⟨rfl, hk1.below⟩
  · go_enter Tryd.func8, Tryd.ntmps8
    go_wp2_with fail
    refine (awake8 hk).mono ?_
    rintro e w1 ⟨rfl, hk1⟩
    go_wp2
    go_ret
    exact ⟨rfl, hk1.below⟩

end Go.Proofs.YtcegcjefjclcnaaDoor
