/- The law PathNorm, walked over the contracts. -/
import Derived.Test.YtcegcjefjclcnaaDoorPathR
import Derived.Test.YtcegcjefjclcnaaDoorStrsIn
import Derived.Test.YtcegcjefjclcnaaDoorLaw8b
namespace Go.Proofs.YtcegcjefjclcnaaDoor
open Go.RowKit Go.Proofs.YtcegcjefjclcnaaDoorW.PrintWords

def dotted (x : List UInt8) : Bool := decide (0 < dotsN x)
set_option maxHeartbeats 4000000 in
set_option maxRecDepth 100000 in
theorem law_PathNorm (v : Value) (L : List (List UInt8)) (i : Int) (_hi : (Lit.int .i64 i).wf = true) (w : World) (hG : Good w) (hT : Texts w.heap.size w v L) (hv : v.oneCell' = true) (hL : L.length ≤ maxLen) (hall : ∀ x ∈ L, x.length ≤ maxLen) :
    Calls Tryd.prog 4 #[v, .int .i64 i] w fun e w' => e = .returned (.bool true) ∧ Below w.heap.size w w' := by
  have hk := Ok.refl hG
  have cf := fun w1 (hk1 : Ok w w1) => Few_any v L hL hall w1 (hT.ok hk1)
  go_enter Tryd.func4, Tryd.ntmps4
  go_wp2_with fail
  refine (awake8 hk).mono ?_
  rintro e w1 ⟨rfl, hk1⟩
  go_wp2_with fail
  refine (cf w1 hk1).mono ?_
  rintro e w2 ⟨b, rfl, hb, hb2⟩
  have hk2 := hk1.step hb2
  clear cf
  cases b with
  | false =>
    clear hb
    go_wp2
    go_ret
    exact ⟨rfl, hk2.below⟩
  | true =>
    obtain ⟨hl60, hl300⟩ := hb rfl
    clear hb hall hL
    have hall6 : ∀ x ∈ L, x.length ≤ 1000000 := fun x hx => by have := hl300 x hx; omega
    have hsm := norm_small hall6
    have htw := norm_twice hall6
    have hlen := normR_len L []
    have hne := normR_ne L []
    have hno := normR_none L [] (fun s hs => by cases hs)
    have hsame : Hid (L.any dotted = false → normR [] L = L) := fun h => norm_any h
    have cn := fun w1 (hk1 : Ok w w1) => path_Norm_any v L (by omega) hall6 w1 (hT.ok hk1) hv
    rw [normL_eq hall6] at cn
    generalize normR [] L = X at *
    simp only [List.length_nil, Nat.zero_add] at hlen
    have HNE := Lib.hid hne
    have HNO := Lib.hid hno
    have HTW := Lib.hid htw
    have HSM := Lib.hid hsm
    have HALL := Lib.hid hall6
    clear hne hno htw hsm hall6 hl300
    go_wp2_with fail
    refine (cn w2 hk2).mono ?_
    rintro e w3 ⟨v3, rfl, ho3, hb3⟩
    have hk3 := hk2.step hb3
    have t3 := texts_own ho3 (Nat.le_refl _)
    have c4 := path_Norm_any v3 X (by omega) HSM.out w3 t3.1 t3.2
    rw [HTW.out] at c4
    clear cn
    go_wp2_with fail
    refine c4.mono ?_
    rintro e w4 ⟨v4, rfl, ho4, hb4⟩
    have hk4 := hk3.step hb4
    have ho34 := row_below ho3 hb4
    have c5 := Same_any v4 v3 X X (by omega) (by omega) w4 (texts_here ho4) (texts_here ho34)
    rw [beq_self_eq_true] at c5
    clear c4 t3
    go_wp2_with fail
    refine c5.mono ?_
    rintro e w5 ⟨rfl, hb5⟩
    have hk5 := hk4.step hb5
    have ho35 := row_below ho34 hb5
    have c6 := Same_any v3 v X L (by omega) (by omega) w5 (texts_here ho35) (hT.ok hk5)
    have hsm2 : Hid (L.any dotted = false → (X == L) = true) := fun h => by rw [hsame.out h]; exact beq_self_eq_true L
    generalize (X == L) = o at *
    clear c5 hsame
    go_wp2_with fail
    refine c6.mono ?_
    rintro e w6 ⟨rfl, hb6⟩
    have hk6 := hk5.step hb6
    have ho36 := row_below ho35 hb6
    clear c6
    go_wp2_with fail
    go_loopw [10, 11] (fun d j wr => ∃ k : Nat, k ≤ L.length ∧ j = .int .i64 k ∧ d = .bool ((L.take k).any dotted) ∧ Ok w wr ∧ Below w6.heap.size w6 wr) (fun _ j _ => L.length - (intOf j).toNat)
    case atStart => exact ⟨0, by omega, rfl, rfl, hk6, Below.refl _ _⟩
    case round =>
      obtain ⟨k, hkl, rfl, rfl, hkr, hbr⟩ := hrel
      have hTr := hT.ok hkr
      by_cases hlt : k < L.length
      · obtain ⟨x, hx⟩ : ∃ x, L[k]? = some x := ⟨_, List.getElem?_eq_getElem hlt⟩
        have hsn : (L.take (k + 1)).any dotted = ((L.take k).any dotted || dotted x) := by rw [List.take_add_one, hx, List.any_append]; simp
        have HS := Lib.hid hsn
        have hxl := HALL.out x (List.mem_of_getElem? hx)
        clear hsn
        rcases hTr with ⟨_, rfl⟩ | ⟨g, off, cap, rfl, hg, hc⟩
        · cases hlt
        · have hcx := hc k x hx
          clear hc hT
          have HX := Lib.hid hx
          clear hx
          have cd := path_Dots_any ⟨x.toArray⟩ (by show x.length ≤ _; omega) wr
          dsimp only at cd
          cases ht : (L.take k).any dotted with
          | true =>
            rw [ht] at HS
            clear cd ht
            go_wp2
            go_roundw
            case rel => exact ⟨k + 1, by omega, by go_num, by rw [HS.out]; rfl, hkr, hbr⟩
            case measure => simp [intOf]; omega
          | false =>
            rw [ht] at HS
            have hd : Hid (dotted x = decide (0 < (dotsN x : Int))) := by show dotted x = _; unfold dotted; rw [decide_eq_decide]; omega
            generalize dotsN x = d at *
            clear ht
            go_wp2_with fail
            refine cd.mono ?_
            rintro e w7 ⟨rfl, hb7⟩
            go_wp2
            go_roundw
            case rel => exact ⟨k + 1, by omega, by go_num, by rw [HS.out, hd.out]; simp, hkr.step hb7, below_on hbr hbr.size hb7⟩
            case measure => simp [intOf]; omega
      · obtain rfl : k = L.length := by omega
        rw [List.take_length]
        have ho3r := row_below ho36 hbr
        clear hTr
        obtain ⟨aoL, capL, rfl⟩ := texts_shape hT
        have hX1 : 0 < X.length ∨ (X.length = 0 ∧ L.length = 0) := by
          rcases Nat.eq_zero_or_pos X.length with h | h
          · refine .inr ⟨h, ?_⟩
            rcases Nat.eq_zero_or_pos L.length with h2 | h2
            · exact h2
            · have : X ≠ [] := HNE.out (.inl (fun e => by rw [e] at h2; simp at h2))
              exact absurd (List.eq_nil_of_length_eq_zero h) this
          · exact .inl h
        have hX2 : decide ((X.length : Int) ≤ (L.length : Int)) = true := decide_eq_true (by omega)
        have hX3 : decide (X.length ≤ L.length) = true := decide_eq_true (by omega)
        have hdo : L.any dotted = true ∨ (L.any dotted = false ∧ o = true) := by
          cases hd : L.any dotted with
          | true => exact .inl rfl
          | false => exact .inr ⟨rfl, hsm2.out hd⟩
        clear hsm2
        generalize L.any dotted = dd at *
        have hpos : Hid ((∃ a b : Bool, a = b ∧ decide ((0 : Int) < (X.length : Int)) = a ∧ decide ((0 : Int) < (L.length : Int)) = b ∧ decide (0 < X.length) = a ∧ decide (0 < L.length) = b)) := by
          rcases hX1 with h | ⟨h, h'⟩
          · exact ⟨true, true, rfl, decide_eq_true (by omega), decide_eq_true (by omega), decide_eq_true (by omega), decide_eq_true (by omega)⟩
          · exact ⟨false, false, rfl, decide_eq_false (by omega), decide_eq_false (by omega), decide_eq_false (by omega), decide_eq_false (by omega)⟩
        obtain ⟨a, _, rfl, p1, p2, p3, p4⟩ := hpos.out
        clear hpos
        by_cases hi0 : i < 0
        · obtain ⟨ao3, cap3, rfl⟩ := texts_shape (texts_here ho3r)
          clear hX1
          rcases hdo with rfl | ⟨rfl, rfl⟩
          all_goals
            cases a
            all_goals
              go_wp2
              go_ret
              exact ⟨rfl, hkr.below⟩
        · by_cases hiX : (X.length : Int) ≤ i
          · obtain ⟨ao3, cap3, rfl⟩ := texts_shape (texts_here ho3r)
            clear hX1
            rcases hdo with rfl | ⟨rfl, rfl⟩
            all_goals
              cases a
              all_goals
                go_wp2
                go_ret
                exact ⟨rfl, hkr.below⟩
          · obtain ⟨m, rfl⟩ := Int.eq_ofNat_of_zero_le (show 0 ≤ i by omega)
            obtain ⟨x, hx⟩ : ∃ x, X[m]? = some x := ⟨_, List.getElem?_eq_getElem (by omega)⟩
            have hx0 := HNO.out x (List.mem_of_getElem? hx)
            have hxl := HSM.out x (List.mem_of_getElem? hx)
            have cd := path_Dots_any ⟨x.toArray⟩ (by show x.length ≤ _; omega) wr
            simp only [hx0] at cd
            rcases texts_here ho3r with ⟨_, rfl⟩ | ⟨g3, off3, cap3, rfl, hg3, hc3⟩
            · cases hx
            · have hcx := hc3 m x hx
              clear hX1 hc3 hx
              rcases hdo with rfl | ⟨rfl, rfl⟩
              all_goals
                cases a
                all_goals
                  go_wp2_with fail
                  refine cd.mono ?_
                  rintro e w7 ⟨rfl, hb7⟩
                  go_wp2
                  go_ret
                  exact ⟨rfl, (hkr.step hb7).below⟩

end Go.Proofs.YtcegcjefjclcnaaDoor
