/- The law PathBack, walked over the contracts. -/
import Derived.Test.YtcegcjefjclcnaaDoorPathQ
import Derived.Test.YtcegcjefjclcnaaDoorStrsIn
namespace Go.Proofs.YtcegcjefjclcnaaDoor
open Go.RowKit Go.Proofs.YtcegcjefjclcnaaDoorW.PrintWords

theorem Texts.ok {w w' : World} {v : Value} {l : List (List UInt8)} (h : Texts w.heap.size w v l) (hk : Ok w w') : Texts w'.heap.size w' v l := by
  rcases h.below hk.below with h | ⟨b, off, cap, e, hb, hc⟩
  · exact .inl h
  · exact .inr ⟨b, off, cap, e, Nat.lt_of_lt_of_le hb hk.below.size, hc⟩
theorem texts_here {w : World} {B : Nat} {v : Value} {L : List (List UInt8)} (h : w.ownsRow B 9 1 v L.length (strs L)) : Texts w.heap.size w v L := (texts_own h (Nat.le_refl _)).1

set_option maxHeartbeats 4000000 in
set_option maxRecDepth 100000 in
theorem law_PathBack (s : ByteArray) (v : Value) (L : List (List UInt8)) (hs : s.size ≤ 140737488351232) (w : World) (hG : Good w) (hT : Texts w.heap.size w v L) (hv : v.oneCell' = true) (hL : L.length ≤ maxLen) (hall : ∀ x ∈ L, x.length ≤ maxLen) :
    Calls Tryd.prog 3 #[.string s, v] w fun e w' => e = .returned (.bool true) ∧ Below w.heap.size w w' := by
  have hk := Ok.refl hG
  have cf := fun w1 (hk1 : Ok w w1) => Few_any v L hL hall w1 (hT.ok hk1)
  go_enter Tryd.func3, Tryd.ntmps3
  go_wp2_with fail
  refine (awake8 hk).mono ?_
  rintro e w1 ⟨rfl, hk1⟩
  go_wp2_with fail
  refine (cf w1 hk1).mono ?_
  rintro e w2 ⟨b, rfl, hb, hb2⟩
  have hk2 := hk1.step hb2
  clear cf
  cases b with
  | false =>
    clear hb
    go_wp2
    go_ret
    exact ⟨rfl, hk2.below⟩
  | true =>
    obtain ⟨hl60, hl300⟩ := hb rfl
    clear hb
    by_cases hls : s.size ≤ 300
    · have hls' : s.data.toList.length ≤ 300 := by rw [← size_list]; exact hls
      have hm1 := may_parse (s := s.data.toList) (by omega)
      have hsl := show_parse_len (s := s.data.toList) (by omega)
      have hps := parse_show hm1 (by omega)
      have hfw := show_few hl300
      have hfl : (showL L).length ≤ 18060 := by have := Nat.mul_le_mul_right (300 + 1) hl60; omega
      have hpl : Hid (mayL L = true → (parseL (showL L) == L) = true) := fun h => by rw [parse_show h (by omega)]; exact beq_self_eq_true L
      have hpn := parse_len (l := s.data.toList) (by omega)
      have hqn := parse_len (l := showL L) (by omega)
      have hall6 : ∀ x ∈ L, x.length ≤ 1000000 := fun x hx => by have := hl300 x hx; omega
      have hsm := (pathSplit_small (l := s.data.toList) (by omega)).2
      have hall7 : ∀ x ∈ parseL s.data.toList, x.length ≤ 1000000 := fun x hx => by
        rw [parse_eq (by omega)] at hx
        rcases normR_mem _ _ x hx with h | h | h
        · cases h
        · exact hsm x h
        · subst h; exact Nat.zero_le _
      have cp := fun w1 (hG : Good w1) => path_Parse_any s (by omega) w1 hG
      have cq := fun w1 (hG : Good w1) => path_Parse_any ⟨(showL (parseL s.data.toList)).toArray⟩ (by show (showL (parseL s.data.toList)).length ≤ _; omega) w1 hG
      have cr := fun w1 (hG : Good w1) => path_Parse_any ⟨(showL L).toArray⟩ (by show (showL L).length ≤ _; omega) w1 hG
      simp only at cq cr
      rw [hps] at cq
      generalize parseL s.data.toList = X at *
      generalize parseL (showL L) = Y at *
      clear hsm hfw hall hsl hls' hps
      go_wp2_with fail
      refine (cp w2 hk2.good).mono ?_
      rintro e w3 ⟨v3, rfl, ho3, hb3⟩
      have hk3 := hk2.step hb3
      have t3 := texts_own ho3 (Nat.le_refl _)
      have c4 := path_Show_any v3 X hpn hall7 w3 t3.1 t3.2
      go_wp2_with fail
      refine c4.mono ?_
      rintro e w4 ⟨rfl, hb4⟩
      have hk4 := hk3.step hb4
      have ho34 := row_below ho3 hb4
      clear c4 t3
      go_wp2_with fail
      refine (cq w4 hk4.good).mono ?_
      rintro e w5 ⟨v5, rfl, ho5, hb5⟩
      have hk5 := hk4.step hb5
      have ho35 := row_below ho34 hb5
      have c6 := Same_any v5 v3 X X hpn hpn w5 (texts_here ho5) (texts_here ho35)
      rw [beq_self_eq_true] at c6
      go_wp2_with fail
      refine c6.mono ?_
      rintro e w6 ⟨rfl, hb6⟩
      have hk6 := hk5.step hb6
      have ho36 := row_below ho35 hb6
      clear c6
      have c7 := path_Show_any v L (by omega) hall6 w6 (hT.ok hk6) hv
      go_wp2_with fail
      refine c7.mono ?_
      rintro e w7 ⟨rfl, hb7⟩
      have hk7 := hk6.step hb7
      have ho37 := row_below ho36 hb7
      clear c7
      go_wp2_with fail
      refine (cr w7 hk7.good).mono ?_
      rintro e w8 ⟨v8, rfl, ho8, hb8⟩
      have hk8 := hk7.step hb8
      have ho38 := row_below ho37 hb8
      have c9 := Same_any v8 v Y L hqn (by omega) w8 (texts_here ho8) (hT.ok hk8)
      generalize (Y == L) = o at *
      go_wp2_with fail
      refine c9.mono ?_
      rintro e w9 ⟨rfl, hb9⟩
      have hk9 := hk8.step hb9
      have ho39 := row_below ho38 hb9
      clear c9
      have c10 := path_May_any v3 X hpn hall7 w9 (texts_here ho39)
      rw [hm1] at c10
      go_wp2_with fail
      refine c10.mono ?_
      rintro e w10 ⟨rfl, hb10⟩
      have hk10 := hk9.step hb10
      clear c10
      have c11 := path_May_any v L (by omega) hall6 w10 (hT.ok hk10)
      generalize mayL L = m at *
      cases m with
      | false =>
        go_wp2_with fail
        refine c11.mono ?_
        rintro e w11 ⟨rfl, hb11⟩
        have hk11 := hk10.step hb11
        go_wp2
        go_ret
        exact ⟨rfl, hk11.below⟩
      | true =>
        have := hpl.out rfl
        subst this
        go_wp2_with fail
        refine c11.mono ?_
        rintro e w11 ⟨rfl, hb11⟩
        have hk11 := hk10.step hb11
        go_wp2
        go_ret
        exact ⟨rfl, hk11.below⟩
    · go_wp2
      go_ret
      exact ⟨rfl, hk2.below⟩

end Go.Proofs.YtcegcjefjclcnaaDoor
