/- The law PathParse, walked over the contracts. -/
import Derived.Test.YtcegcjefjclcnaaDoorLaw8u
namespace Go.Proofs.YtcegcjefjclcnaaDoor
open Go.RowKit Go.Proofs.YtcegcjefjclcnaaDoorW.PrintWords

theorem parse_two {a b : List UInt8} (ha : (47 : UInt8) ∉ a) (hb : (47 : UInt8) ∉ b) (hd : dotsN a = 0) (he : dotsN b = 0) (hl : a.length ≤ 100) (hs : b.length ≤ 100) :
    parseL (47 :: (a ++ 47 :: b)) = [encode3 a, encode3 b] := by
  rw [parse_slash (by simp; omega), split_enc ha, splitOn_none 47 _ (enc_slash b hb)]
  rw [normR_free]
  · rfl
  · intro x hx
    rcases List.mem_cons.1 hx with rfl | hx
    · rw [enc_dots]; exact hd
    · obtain rfl := List.mem_singleton.1 hx; rw [enc_dots]; exact he
theorem parse_ne {X : List UInt8} (hX : X.length ≤ 300000) : parseL (47 :: X) ≠ [] := by
  rw [parse_slash hX]; exact normR_ne _ _ (.inl (split_ne2 _))

theorem oEnc {w0 w : World} (hk : Ok w0 w) (s : ByteArray) (hs : s.size ≤ 100) : Calls Tryd.prog 18 #[.string s, .int .i64 3] w fun e w' => e = .returned (.string ⟨(encode3 s.data.toList).toArray⟩) ∧ Ok w0 w' := ok_below hk fun _ => pct_Encode3 s (by omega) w
set_option maxHeartbeats 4000000 in
set_option maxRecDepth 100000 in
theorem law_PathParse (a b : ByteArray) (ha : a.size ≤ 140737488351232) (hb : b.size ≤ 140737488351232) (w : World) (hG : Good w) :
    Calls Tryd.prog 6 #[.string a, .string b] w fun e w' => e = .returned (.bool true) ∧ Below w.heap.size w w' := by
  have hk := Ok.refl hG
  by_cases hla : a.size ≤ 100
  · by_cases hlb : b.size ≤ 100
    · have z1 : (⟨#[47]⟩ : ByteArray).size = 1 := rfl
      have hla' : a.data.toList.length ≤ 100 := by rw [← size_list]; exact hla
      have hlb' : b.data.toList.length ≤ 100 := by rw [← size_list]; exact hlb
      have c1 := fun w hG => path_Parse_any ((((⟨#[47]⟩ : ByteArray) ++ a) ++ ⟨#[47]⟩) ++ b) (by simp only [ByteArray.size_append]; omega) w hG
      have ew : ((((⟨#[47]⟩ : ByteArray) ++ a) ++ ⟨#[47]⟩) ++ b).data.toList = 47 :: (a.data.toList ++ 47 :: b.data.toList) := by simp [ByteArray.data_append]
      rw [ew] at c1
      have hne := parse_ne (X := a.data.toList ++ 47 :: b.data.toList) (by simp; omega)
      have htwo : Hid ((47 : UInt8) ∉ a.data.toList → (47 : UInt8) ∉ b.data.toList → dotsN a.data.toList = 0 → dotsN b.data.toList = 0 → parseL (47 :: (a.data.toList ++ 47 :: b.data.toList)) = [encode3 a.data.toList, encode3 b.data.toList]) := fun h1 h2 h3 h4 => parse_two h1 h2 h3 h4 hla' hlb'
      have cda := fun w => path_Dots_any a (by omega) w
      have cdb := fun w => path_Dots_any b (by omega) w
      generalize hW : parseL (47 :: (a.data.toList ++ 47 :: b.data.toList)) = W at *
      generalize dotsN a.data.toList = da at *
      generalize dotsN b.data.toList = db at *
      obtain ⟨n, hWn⟩ : ∃ n, W.length = n + 1 := by
        cases W with
        | nil => exact absurd rfl hne
        | cons x r => exact ⟨r.length, rfl⟩
      have hge : decide ((1 : Int) ≤ (n : Int) + 1) = true := decide_eq_true (by omega)
      clear hW ew hne
      go_enter Tryd.func6, Tryd.ntmps6
      go_wp2_with fail
      refine (awake8 hk).mono ?_
      rintro e w1 ⟨rfl, hk1⟩
      go_wp2_with fail
      go_loopw [6] (fun i wr => ∃ k : Nat, i = .int .i64 k ∧ k ≤ a.size ∧ Hid ((47 : UInt8) ∉ a.data.toList.take k) ∧ Ok w wr) (fun i _ => a.size - (intOf i).toNat)
      case atStart => exact ⟨0, rfl, Nat.zero_le _, by show _ ∉ _; simp, hk1⟩
      case round =>
        obtain ⟨k, rfl, hkb, hno, hkr⟩ := hrel
        by_cases hlt : k < a.size
        · obtain ⟨x, hg, htk⟩ := byte_step hlt
          have Htk := Lib.hid htk
          clear htk
          by_cases hx : x = 47
          · have hx1 : ((x.toNat : Int) == 47) = true := by rw [hx]; decide
            have HX := Lib.hid hx
            clear hx
            go_wp2
            go_ret
            exact ⟨rfl, hkr.below⟩
          · have hx1 : ((x.toNat : Int) == 47) = false := beq_eq_false_iff_ne.2 (fun e => hx (UInt8.toNat_inj.1 (by have : (47 : UInt8).toNat = 47 := rfl; omega)))
            have HX := Lib.hid hx
            clear hx
            go_wp2
            go_roundw
            case rel => exact ⟨k + 1, by go_num, by omega, by show _ ∉ _; rw [Htk.out]; simp only [List.mem_append, List.mem_singleton, not_or]; exact ⟨hno.out, fun e => HX.out e.symm⟩, hkr⟩
            case measure => simp [intOf]; omega
        · have hna : Hid ((47 : UInt8) ∉ a.data.toList) := by
            have := hno.out
            rw [List.take_of_length_le (by rw [← size_list]; omega)] at this
            exact this
          have hka : a.size ≤ k := by omega
          clear hno
          go_wp2_with fail
          go_loopw [7] (fun i wr => ∃ k : Nat, i = .int .i64 k ∧ k ≤ b.size ∧ Hid ((47 : UInt8) ∉ b.data.toList.take k) ∧ Ok w wr) (fun i _ => b.size - (intOf i).toNat)
          case atStart => exact ⟨0, rfl, Nat.zero_le _, by show _ ∉ _; simp, hkr⟩
          case round =>
            obtain ⟨j, rfl, hjb, hno, hkq⟩ := hrel
            by_cases hlt2 : j < b.size
            · obtain ⟨x, hg, htk⟩ := byte_step hlt2
              have Htk := Lib.hid htk
              clear htk
              by_cases hx : x = 47
              · have hx1 : ((x.toNat : Int) == 47) = true := by rw [hx]; decide
                have HX := Lib.hid hx
                clear hx
                go_wp2
                go_ret
                exact ⟨rfl, hkq.below⟩
              · have hx1 : ((x.toNat : Int) == 47) = false := beq_eq_false_iff_ne.2 (fun e => hx (UInt8.toNat_inj.1 (by have : (47 : UInt8).toNat = 47 := rfl; omega)))
                have HX := Lib.hid hx
                clear hx
                go_wp2
                go_roundw
                case rel => exact ⟨j + 1, by go_num, by omega, by show _ ∉ _; rw [Htk.out]; simp only [List.mem_append, List.mem_singleton, not_or]; exact ⟨hno.out, fun e => HX.out e.symm⟩, hkq⟩
                case measure => simp [intOf]; omega
            · have hnb : Hid ((47 : UInt8) ∉ b.data.toList) := by
                have := hno.out
                rw [List.take_of_length_le (by rw [← size_list]; omega)] at this
                exact this
              have hjb2 : b.size ≤ j := by omega
              clear hno
              go_wp2_with fail
              refine (c1 _ hkq.good).mono ?_
              rintro e w3 ⟨v3, rfl, ho3, hb3⟩
              have hk3 := hkq.step hb3
              obtain ⟨g3, p3, rfl, hp3⟩ := own_some (n := n) (by rw [← hWn]; exact ho3)
              by_cases hda : da = 0
              · subst hda
                by_cases hdb : db = 0
                · subst hdb
                  have hWW := htwo.out hna.out hnb.out rfl rfl
                  subst hWW
                  obtain rfl : n = 1 := by simp at hWn; omega
                  go_wp2_with fail
                  refine (cda _).mono ?_
                  rintro e w4 ⟨rfl, hb4⟩
                  have hk4 := hk3.step hb4
                  have ho4 := row_below ho3 hb4
                  go_wp2_with fail
                  refine (cdb _).mono ?_
                  rintro e w5 ⟨rfl, hb5⟩
                  have hk5 := hk4.step hb5
                  have ho5 := row_below ho4 hb5
                  have hfin : ∀ w', Ok w5 w' → Below w.heap.size w w' := fun w' h => (hk5.step h.below).below
                  have hmk : ∀ w', Ok w5 w' → Ok w5 w' ∧ w'.cell? ⟨g3, 0, none⟩ = some (.string ⟨(encode3 a.data.toList).toArray⟩) ∧ w'.cell? ⟨g3, 1, none⟩ = some (.string ⟨(encode3 b.data.toList).toArray⟩) := by
                    intro w' h
                    have ho6 := row_below ho5 h.below
                    exact ⟨h, own_cell (L := [encode3 a.data.toList, encode3 b.data.toList]) ho6 rfl, own_cell (L := [encode3 a.data.toList, encode3 b.data.toList]) ho6 rfl⟩
                  have hkd := Ok.refl hk5.good
                  have hkd2 := hkd.drew
                  clear ho3 ho4 htwo c1 cda cdb
                  go_wp2_with fail
                  go_region_held3 (fun w' => Ok w5 w' ∧ w'.cell? ⟨g3, 0, none⟩ = some (.string ⟨(encode3 a.data.toList).toArray⟩) ∧ w'.cell? ⟨g3, 1, none⟩ = some (.string ⟨(encode3 b.data.toList).toArray⟩)) (exact hmk _ (by assumption)) (first
                    | (go_simp; go_at_call 18; refine (oEnc (w0 := w5) ?_ _ (by assumption)).mono ?_; (exact And.left (by assumption)); rintro e wm ⟨rfl, hmm⟩))
                  all_goals (go_wp2; go_ret; exact ⟨rfl, hfin _ (And.left (by assumption))⟩)
                · have hd1 : (0 : Int) < db := by omega
                  go_wp2_with fail
                  refine (cda _).mono ?_
                  rintro e w4 ⟨rfl, hb4⟩
                  have hk4 := hk3.step hb4
                  go_wp2_with fail
                  refine (cdb _).mono ?_
                  rintro e w5 ⟨rfl, hb5⟩
                  have hk5 := hk4.step hb5
                  go_wp2
                  go_ret
                  exact ⟨rfl, hk5.below⟩
              · have hd1 : (0 : Int) < da := by omega
                go_wp2_with fail
                refine (cda _).mono ?_
                rintro e w4 ⟨rfl, hb4⟩
                have hk4 := hk3.step hb4
                go_wp2
                go_ret
                exact ⟨rfl, hk4.below⟩
    · go_enter Tryd.func6, Tryd.ntmps6
      go_wp2_with fail
      refine (awake8 hk).mono ?_
      rintro e w1 ⟨rfl, hk1⟩
      go_wp2
      go_ret
      exact ⟨rfl, hk1.below⟩
  · go_enter Tryd.func6, Tryd.ntmps6
    go_wp2_with fail
    refine (awake8 hk).mono ?_
    rintro e w1 ⟨rfl, hk1⟩
    go_wp2
    go_ret
    exact ⟨rfl, hk1.below⟩

end Go.Proofs.YtcegcjefjclcnaaDoor
