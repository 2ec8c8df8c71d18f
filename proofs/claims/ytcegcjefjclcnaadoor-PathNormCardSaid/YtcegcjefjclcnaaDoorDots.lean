/- path.Dots. -/
import Derived.Test.YtcegcjefjclcnaaDoorLower
import Derived.Test.YtcegcjefjclcnaaDoorPathP
import Derived.Test.YtcegcjefjclcnaaDoorShelf
namespace Go.Proofs.YtcegcjefjclcnaaDoor
open Go.RowKit Go.Proofs.YtcegcjefjclcnaaDoorW.PrintWords

theorem extract_mk (L : List UInt8) (i : Nat) : (⟨L.toArray⟩ : ByteArray).extract i L.length = ⟨(L.drop i).toArray⟩ := by
  apply toList_inj
  rw [mk_toList]
  have := Lib.extract_to_end (⟨L.toArray⟩ : ByteArray) i
  rw [mk_toList] at this
  exact this
theorem extract_take (L : List UInt8) (i : Nat) : (⟨L.toArray⟩ : ByteArray).extract 0 i = ⟨(L.take i).toArray⟩ := by
  apply toList_inj
  rw [mk_toList, Lib.extract_from_zero, mk_toList]

set_option maxHeartbeats 2000000 in
set_option maxRecDepth 100000 in
theorem path_Dots_any (s : ByteArray) (hs : s.size ≤ 140737488351232) (w : World) :
    Calls Tryd.prog 16 #[.string s] w fun e w' => e = .returned (.int .i64 (dotsN s.data.toList)) ∧ Below w.heap.size w w' := by
  obtain ⟨L0, rfl⟩ : ∃ L0 : List UInt8, s = ⟨L0.toArray⟩ := ⟨s.data.toList, (of_toList s).symm⟩
  rw [mk_toList]
  have hs0 : L0.length ≤ 140737488351232 := hs
  clear hs
  go_enter Tryd.func16, Tryd.ntmps16
  go_wp2
  go_loopw [0, 3, 4, 5] (fun v n _ _ wr => ∃ (L : List UInt8) (k : Nat), k ≤ 2 ∧ v = .string ⟨L.toArray⟩ ∧ n = .int .i64 k ∧ L.length ≤ L0.length ∧ dotsFrom k L = dotsN L0 ∧ Below w.heap.size w wr) (fun _ n _ _ _ => 3 - (intOf n).toNat)
  case atStart => exact ⟨L0, 0, by omega, rfl, rfl, Nat.le_refl _, rfl, Below.refl _ _⟩
  case round =>
    obtain ⟨L, k, hk, rfl, rfl, hlen, hd, hb⟩ := hrel
    cases L with
    | nil =>
      rw [dotsFrom_nil] at hd
      go_wp2
      go_ret
      exact ⟨by rw [← hd]; rfl, hb⟩
    | cons c R =>
      have hcut := Tryd.strings_CutPrefix ⟨(c :: R).toArray⟩ ⟨#[46]⟩ wr
      rw [mk_toList] at hcut
      by_cases hc : c = 46
      · subst hc
        have hp : Lib.hasPrefix (46 :: R) (⟨#[46]⟩ : ByteArray).data.toList = true := rfl
        have ht : Lib.trimPrefix (46 :: R) (⟨#[46]⟩ : ByteArray).data.toList = R := rfl
        rw [hp, ht] at hcut
        rw [dotsFrom_some (by simp) (takeDot_dot R)] at hd
        go_wp2_with fail
        refine hcut.mono ?_
        rintro e w1 ⟨rfl, rfl⟩
        by_cases hk2 : k < 2
        · rw [if_pos hk2] at hd
          have HD := Lib.hid hd
          clear hd
          go_wp2
          exact ⟨⟨R, k + 1, by omega, rfl, by go_num, by simp at hlen; omega, HD.out, hb⟩, by simp [intOf]; omega⟩
        · rw [if_neg hk2] at hd
          have HD := Lib.hid hd
          clear hd
          go_wp2
          go_ret
          exact ⟨by rw [← HD.out]; rfl, hb⟩
      · have hp : Lib.hasPrefix (c :: R) (⟨#[46]⟩ : ByteArray).data.toList = false := by
          show List.isPrefixOf [46] (c :: R) = false
          rw [List.isPrefixOf, beq_eq_false_iff_ne.2 (fun e => hc e.symm)]; rfl
        have ht : Lib.trimPrefix (c :: R) (⟨#[46]⟩ : ByteArray).data.toList = c :: R := by unfold Lib.trimPrefix; rw [hp]; rfl
        rw [hp, ht] at hcut
        have hne : (c :: R).isEmpty = false := rfl
        have hne2 : c :: R ≠ [] := by simp
        have hx1 := extract_take (c :: R) 3
        have hx2 := extract_mk (c :: R) 3
        have hsome := takeDot_hex (l := R) hc
        have hnone := takeDot_none (l := R) hc
        clear hp ht hc
        generalize c :: R = L at *
        have hS := ascii_Same_any ⟨(L.take 3).toArray⟩ ⟨#[37, 50, 101]⟩ (by show (L.take 3).length ≤ _; rw [List.length_take]; omega) (by decide) wr
        rw [mk_toList] at hS
        have e37 : lowL (⟨#[37, 50, 101]⟩ : ByteArray).data.toList = [37, 50, 101] := by decide +kernel
        rw [e37] at hS
        by_cases h3 : 3 ≤ L.length
        · by_cases hl : lowL (L.take 3) = [37, 50, 101]
          · have hb1 : (lowL (L.take 3) == [37, 50, 101]) = true := by rw [hl]; rfl
            rw [hb1] at hS
            rw [dotsFrom_some hne2 (hsome h3 hl)] at hd
            clear hl hb1 hsome hnone
            by_cases hk2 : k < 2
            · rw [if_pos hk2] at hd
              have HD := Lib.hid hd
              clear hd
              go_wp2_with (first | (go_at_call 28; refine hcut.mono ?_; rintro e w1 ⟨rfl, rfl⟩) | (go_at_call 29; refine hS.mono ?_; rintro e w2 ⟨rfl, hb2⟩))
              exact ⟨⟨L.drop 3, k + 1, by omega, rfl, by go_num, by rw [List.length_drop]; omega, HD.out, below_on hb hb.size hb2⟩, by simp [intOf]; omega⟩
            · rw [if_neg hk2] at hd
              have HD := Lib.hid hd
              clear hd
              go_wp2_with (first | (go_at_call 28; refine hcut.mono ?_; rintro e w1 ⟨rfl, rfl⟩) | (go_at_call 29; refine hS.mono ?_; rintro e w2 ⟨rfl, hb2⟩))
              go_ret
              exact ⟨by rw [← HD.out]; rfl, below_on hb hb.size hb2⟩
          · have hb1 : (lowL (L.take 3) == [37, 50, 101]) = false := beq_eq_false_iff_ne.2 hl
            rw [hb1] at hS
            rw [dotsFrom_none hne2 (hnone fun h => hl h.2)] at hd
            have HD := Lib.hid hd
            clear hl hb1 hsome hnone hd
            go_wp2_with (first | (go_at_call 28; refine hcut.mono ?_; rintro e w1 ⟨rfl, rfl⟩) | (go_at_call 29; refine hS.mono ?_; rintro e w2 ⟨rfl, hb2⟩))
            go_ret
            exact ⟨by rw [← HD.out]; rfl, below_on hb hb.size hb2⟩
        · rw [dotsFrom_none hne2 (hnone fun h => h3 h.1)] at hd
          have HD := Lib.hid hd
          clear hd hS hsome hnone
          go_wp2_with (go_at_call 28; refine hcut.mono ?_; rintro e w1 ⟨rfl, rfl⟩)
          go_ret
          exact ⟨by rw [← HD.out]; rfl, hb⟩

end Go.Proofs.YtcegcjefjclcnaaDoor
