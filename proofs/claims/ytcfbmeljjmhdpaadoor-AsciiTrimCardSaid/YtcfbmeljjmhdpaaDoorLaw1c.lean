/- The laws AsciiHex, AsciiTrim and AsciiClean, walked over the contracts. -/
import Derived.Test.YtcfbmeljjmhdpaaDoorLaw1
import Derived.Test.YtcfbmeljjmhdpaaDoorOks
import Derived.OpenShut
import Derived.Deep.QuietTactic
import Derived.BigQuiet
namespace Go.Proofs.YtcfbmeljjmhdpaaDoor
open Go.RowKit Go.Proofs.YtcfbmeljjmhdpaaDoorW.PrintWords

theorem snoc_ways (l : List UInt8) : l = [] ∨ ∃ R c, l = R ++ [c] := by
  by_cases h : l = []
  · exact .inl h
  · exact .inr ⟨_, _, (List.dropLast_concat_getLast h).symm⟩
theorem sub_same {x : UInt8} {a b : List UInt8} (h : (x :: a).Sublist (x :: b)) : a.Sublist b := List.cons_sublist_cons.1 h
theorem sub_skip {x y : UInt8} {a b : List UInt8} (h : (x :: a).Sublist (y :: b)) (hne : y ≠ x) : (x :: a).Sublist b := by
  cases h with
  | cons _ h => exact h
  | cons_cons _ h => exact absurd rfl hne

set_option maxHeartbeats 4000000 in
set_option maxRecDepth 100000 in
theorem law_AsciiClean (s : ByteArray) (i : Int) (hs : s.size ≤ 140737488351232) (_hi : (Lit.int .i64 i).wf = true) (w : World) (hG : Good w) :
    Calls Tryd.prog 7 #[.string s, .int .i64 i] w fun e w' => e = .returned (.bool true) ∧ Below w.heap.size w w' := by
  have hk := Ok.refl hG
  by_cases hl : s.size ≤ 600
  · have c1 := fun w1 (hk : Ok w w1) => oClean hk s (by omega)
    have hti := clean_tight s.data.toList
    have hsub := clean_sub s.data.toList
    have hkeep : ∀ x ∈ cleanL s.data.toList, keepC x = true := fun x hx => (List.mem_filter.1 hx).2
    have hsl := size_list s
    have hlen := hsub.length_le
    generalize hT : cleanL s.data.toList = T at *
    have htl : (⟨T.toArray⟩ : ByteArray).data.toList = T := mk_toList T
    have hts : (⟨T.toArray⟩ : ByteArray).size = T.length := by rw [size_list, htl]
    generalize (⟨T.toArray⟩ : ByteArray) = t at *
    have HTL := Lib.hid htl
    have HSL := Lib.hid hsl
    have HTS := Lib.hid hts
    have HSUB := Lib.hid hsub
    have HK := Lib.hid hkeep
    have hbt : t.size ≤ s.size := by omega
    clear htl hT hsub hkeep hsl hlen
    have hends : (T = [] ∧ t.toList.isEmpty = true ∧ t.size = 0) ∨ (∃ (n : Nat) (c0 c1 : UInt8) (h0 : 0 < t.size) (h1 : n < t.size), t.toList.isEmpty = false ∧ t.size = n + 1 ∧ t[0]'h0 = c0 ∧ t[n]'h1 = c1 ∧ 33 ≤ c0.toNat ∧ 33 ≤ c1.toNat) := by
      rcases snoc_ways T with h | ⟨R, c1, h⟩
      · exact .inl ⟨h, by rw [ba_toList, HTL.out, h]; rfl, by rw [hts, h]; rfl⟩
      · right
        cases hc : T with
        | nil => rw [hc] at h; simp at h
        | cons c0 R0 =>
          have e0 := hti.first c0 R0 hc
          have e1 := hti.last c1 R h
          have l1 : T.length = R.length + 1 := by rw [h]; simp
          refine ⟨R.length, c0, c1, by omega, by omega, by rw [ba_toList, HTL.out, hc]; rfl, by omega, get_cons (l := R0) (by rw [HTL.out, hc]; rfl) _, get_cons (l := []) (by rw [HTL.out, h]; simp) _, ?_, ?_⟩
          · have := of_decide_eq_false e0; omega
          · have := of_decide_eq_false e1; omega
    have hiw : i < 0 ∨ (0 ≤ i ∧ (t.size : Int) ≤ i) ∨ ∃ (m : Nat) (x : UInt8) (h : m < t.size), i = m ∧ t[m]'h = x ∧ ((x.toNat : Int) == 9) = false ∧ ((x.toNat : Int) == 10) = false ∧ ((x.toNat : Int) == 13) = false := by
      by_cases h1 : i < 0
      · exact .inl h1
      · by_cases h2 : (t.size : Int) ≤ i
        · exact .inr (.inl ⟨by omega, h2⟩)
        · obtain ⟨m, rfl⟩ := Int.eq_ofNat_of_zero_le (show 0 ≤ i by omega)
          have hm : m < t.size := by omega
          obtain ⟨x, hx⟩ : ∃ x, T[m]? = some x := ⟨_, List.getElem?_eq_getElem (by omega)⟩
          have hkx := HK.out x (List.mem_of_getElem? hx)
          have h3 : x ≠ 9 ∧ x ≠ 10 ∧ x ≠ 13 := by
            unfold keepC at hkx
            rw [Bool.not_eq_true', Bool.or_eq_false_iff, Bool.or_eq_false_iff] at hkx
            exact ⟨beq_eq_false_iff_ne.1 hkx.1.1, beq_eq_false_iff_ne.1 hkx.1.2, beq_eq_false_iff_ne.1 hkx.2⟩
          have key : ∀ (k : Nat) (hk : k < 256), x ≠ UInt8.ofNat k → ((x.toNat : Int) == (k : Int)) = false := fun k hk hne => beq_eq_false_iff_ne.2 (fun e => hne (UInt8.toNat_inj.1 (by rw [UInt8.toNat_ofNat']; omega)))
          exact .inr (.inr ⟨m, x, hm, rfl, get_cons (l := T.drop (m + 1)) (by rw [HTL.out, List.drop_eq_getElem_cons (by omega), (List.getElem?_eq_some_iff.1 hx).2]) _, key 9 (by decide) h3.1, key 10 (by decide) h3.2.1, key 13 (by decide) h3.2.2⟩)
    clear hti hts
    rcases hends with ⟨h0, he, hz⟩ | ⟨n, c0, c1', h0, h1, he, hz, g0, g1, l0, l1⟩
    all_goals
      rcases hiw with hi1 | ⟨hi1, hi2⟩ | ⟨m, x, hm, rfl, gm, n9, n10, n13⟩
      all_goals
        first
        | (exfalso; omega)
        | (go_enter Tryd.func7, Tryd.ntmps7
           go_wp2_with fail
           refine (awake1 hk).mono ?_
           rintro e w1 ⟨rfl, hk1⟩
           go_wp2_with fail
           refine (c1 w1 hk1).mono ?_
           rintro e w2 ⟨rfl, hk2⟩
           go_wp2
           go_loopw [7, 8] (fun k j wr => ∃ a b : Nat, k = .int .i64 a ∧ j = .int .i64 b ∧ a ≤ t.size ∧ b ≤ s.size ∧ Hid ((T.drop a).Sublist (s.data.toList.drop b)) ∧ Ok w wr) (fun _ j _ => s.size - (intOf j).toNat)
           case atStart => exact ⟨0, 0, rfl, rfl, by omega, by omega, HSUB.out, hk2⟩
           case round =>
             obtain ⟨a, b, rfl, rfl, ha, hb, hsb, hkr⟩ := hrel
             by_cases hbs : b < s.size
             · by_cases hat : a < t.size
               · obtain ⟨x, hx⟩ : ∃ x, T[a]? = some x := ⟨_, List.getElem?_eq_getElem (by have := HTS.out; omega)⟩
                 obtain ⟨y, hy⟩ : ∃ y, s.data.toList[b]? = some y := ⟨_, List.getElem?_eq_getElem (by have := HSL.out; omega)⟩
                 obtain ⟨hxl, hxe⟩ := List.getElem?_eq_some_iff.1 hx
                 obtain ⟨hyl, hye⟩ := List.getElem?_eq_some_iff.1 hy
                 have gx : t[a]'hat = x := get_cons (l := T.drop (a + 1)) (by rw [HTL.out, List.drop_eq_getElem_cons hxl, hxe]) _
                 have gy : s[b]'hbs = y := get_cons (l := s.data.toList.drop (b + 1)) (by rw [List.drop_eq_getElem_cons hyl, hye]) _
                 have hsb' := hsb.out
                 rw [List.drop_eq_getElem_cons hxl, hxe, List.drop_eq_getElem_cons hyl, hye] at hsb'
                 by_cases hxy : y = x
                 · subst hxy
                   have hn := sub_same hsb'
                   have HN := Lib.hid hn
                   clear hx hy hxe hye hsb' hn
                   have q : ((y.toNat : Int) == (y.toNat : Int)) = true := by simp
                   go_wp2
                   all_goals
                     go_quiet (fail)
                     go_wp2
                     exact ⟨⟨a + 1, b + 1, by go_num, by go_num, by omega, by omega, HN.out, hkr.drewN _⟩, by simp [intOf]; omega⟩
                 · have hn := sub_skip hsb' hxy
                   have hn2 : (T.drop a).Sublist (s.data.toList.drop (b + 1)) := by rw [List.drop_eq_getElem_cons hxl, hxe]; exact hn
                   have HN := Lib.hid hn2
                   have q : ((y.toNat : Int) == (x.toNat : Int)) = false := beq_eq_false_iff_ne.2 (fun e => hxy (UInt8.toNat_inj.1 (by omega)))
                   clear hx hy hxe hye hsb' hn hn2
                   go_wp2
                   all_goals
                     go_quiet (fail)
                     go_wp2
                     exact ⟨⟨a, b + 1, rfl, by go_num, by omega, by omega, HN.out, hkr.drewN _⟩, by simp [intOf]; omega⟩
               · obtain rfl : a = t.size := by omega
                 have q : ((t.size : Int) == (t.size : Int)) = true := by simp
                 go_wp2
                 go_ret
                 exact ⟨rfl, hkr.below⟩
             · obtain rfl : b = s.size := by omega
               have hat : a = t.size := by
                 have h1 := hsb.out
                 have hnil : s.data.toList.drop s.size = [] := List.drop_eq_nil_of_le (by have := HSL.out; omega)
                 rw [hnil] at h1
                 have h2 := h1.length_le
                 rw [List.length_drop] at h2
                 have := HTS.out
                 simp at h2; omega
               subst hat
               have q : ((t.size : Int) == (t.size : Int)) = true := by simp
               go_wp2
               go_ret
               exact ⟨rfl, hkr.below⟩)
  · go_enter Tryd.func7, Tryd.ntmps7
    go_wp2_with fail
    refine (awake1 hk).mono ?_
    rintro e w1 ⟨rfl, hk1⟩
    go_wp2
    go_ret
    exact ⟨rfl, hk1.below⟩

end Go.Proofs.YtcfbmeljjmhdpaaDoor
