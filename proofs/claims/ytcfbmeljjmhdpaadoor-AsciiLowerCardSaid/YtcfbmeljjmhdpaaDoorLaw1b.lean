/- The laws AsciiLower and AsciiClean, walked over the contracts. -/
import Derived.Test.YtcfbmeljjmhdpaaDoorLaw1
import Derived.Test.YtcfbmeljjmhdpaaDoorOks
import Derived.OpenShut
import Derived.Deep.QuietTactic
import Derived.BigQuiet
import Derived.Deep.RegionHeld3
import Derived.IntWalk
import Derived.Deep.RegionWith
namespace Go.Proofs.YtcfbmeljjmhdpaaDoor
open Go.RowKit Go.Proofs.YtcfbmeljjmhdpaaDoorW.PrintWords

set_option maxHeartbeats 8000000 in
set_option maxRecDepth 100000 in
theorem law_AsciiLower (s t : ByteArray) (i : Int) (hs : s.size ≤ 140737488351232) (ht : t.size ≤ 140737488351232) (_hi : (Lit.int .i64 i).wf = true) (w : World) (hG : Good w) :
    Calls Tryd.prog 4 #[.string s, .string t, .int .i64 i] w fun e w' => e = .returned (.bool true) ∧ Below w.heap.size w w' := by
  have hk := Ok.refl hG
  by_cases h1 : s.size ≤ 600 ∧ t.size ≤ 600 ∧ 0 ≤ i ∧ i < s.size
  · obtain ⟨h1, h2, h3, h4⟩ := h1
    obtain ⟨k, rfl⟩ := Int.eq_ofNat_of_zero_le h3
    have hks : k < s.size := by omega
    have hsl := size_list s
    have htl := size_list t
    have e1 := lowL_len s.data.toList
    obtain ⟨c, hc⟩ : ∃ c, s.data.toList[k]? = some c := ⟨_, List.getElem?_eq_getElem (by omega)⟩
    have hgc : s[k]'hks = c := by have := (List.getElem?_eq_some_iff.1 hc).2; rw [← this]; rfl
    have c1 := fun w1 (hk : Ok w w1) => oLower hk s (by omega)
    have c2 := fun w1 (hk : Ok w w1) => oSameA hk s t (by omega) (by omega)
    have z1 : (⟨(lowL s.data.toList).toArray⟩ : ByteArray).size = s.size := by rw [size_list, mk_toList, e1, ← hsl]
    have hlc : (lowL s.data.toList)[k]? = some (lowC c) := by unfold lowL; rw [List.getElem?_map, hc]; rfl
    have hgl : ∀ h : k < (⟨(lowL s.data.toList).toArray⟩ : ByteArray).size, (⟨(lowL s.data.toList).toArray⟩ : ByteArray)[k]'h = lowC c := fun h => by have := (List.getElem?_eq_some_iff.1 hlc).2; rw [← this]; rfl
    have hsame : Hid ((lowL s.data.toList == lowL t.data.toList) = true → s.size = t.size ∧ ∃ (h : k < t.size) (d : UInt8), t[k]'h = d ∧ lowC c = lowC d) := fun h => by
      have h := eq_of_beq h
      have hl := congrArg List.length h
      rw [lowL_len, lowL_len] at hl
      have hkt : k < t.size := by omega
      obtain ⟨d, hd⟩ : ∃ d, t.data.toList[k]? = some d := ⟨_, List.getElem?_eq_getElem (by omega)⟩
      refine ⟨by omega, hkt, d, by have := (List.getElem?_eq_some_iff.1 hd).2; rw [← this]; rfl, ?_⟩
      have h9 : (lowL t.data.toList)[k]? = some (lowC d) := by unfold lowL; rw [List.getElem?_map, hd]; rfl
      rw [← h, hlc] at h9
      exact Option.some.inj h9
    generalize (⟨(lowL s.data.toList).toArray⟩ : ByteArray) = L at *
    generalize (lowL s.data.toList == lowL t.data.toList) = b at *
    have hlw := low_ways c
    have c256 := c.toNat_lt
    have hkL : k < L.size := by omega
    replace hgl := hgl hkL
    have q0 : ((L.size : Int) != (s.size : Int)) = false := by rw [z1]; simp
    have HZ := Lib.hid z1
    clear hc hlc hsl htl e1 z1
    cases b with
    | false =>
      clear hsame
      rcases hlw with ⟨g1, g2, g3⟩ | ⟨g1, g2⟩
      · have q1 : (((lowC c).toNat : Int) != (c.toNat : Int)) = true := by rw [bne_iff_ne]; omega
        have q2 : (((lowC c).toNat : Int) != (c.toNat : Int) + 32) = false := by rw [g3]; simp
        have g4 : 97 ≤ (lowC c).toNat := by omega
        clear g3
        generalize lowC c = lc at *
        have r1 : decide ((c.toNat : Int) < 65) = false := decide_eq_false (by omega)
        have r2 : decide (90 < (c.toNat : Int)) = false := decide_eq_false (by omega)
        have r3 : decide (65 ≤ (lc.toNat : Int)) = true := decide_eq_true (by omega)
        have r4 : decide ((lc.toNat : Int) ≤ 90) = false := decide_eq_false (by omega)
        have r5 : IntKind.u8.wrap ((c.toNat : Int) + 32) = (c.toNat : Int) + 32 := IntWalk.u8_in _ (by omega)
        go_enter Tryd.func4, Tryd.ntmps4
        go_wp2_with fail
        refine (awake1 hk).mono ?_
        rintro e w1 ⟨rfl, hk1⟩
        go_wp2_with fail
        refine (c1 w1 hk1).mono ?_
        rintro e w2 ⟨rfl, hk2⟩
        go_wp2_with fail
        go_quiet (fail)
        go_wp2_with fail
        refine wp_region_oks (w0 := w) (by kernel_rfl) (by kernel_rfl) (by first | exact hk2.drewN _ | exact hk2) (fun _ => ?_)
        repeat (first | go_big_quiet_skip | (go_big_quiet_want; go_big_quiet_op; first | go_big_quiet_on | (apply Exists.intro; refine ⟨fun _ => ?_, ?_⟩; (first | (go_at_call 12; exact quiet_ok (c2 _ (Oks.ok _)))); go_big_quiet_on)))
        refine wpQuiet_nil ?_
        rintro _ ⟨⟨W, hW⟩, rfl⟩
        go_wp2
        go_ret
        exact ⟨rfl, hW.below⟩
      · rcases g1 with g1 | g1
        · rw [g2] at hgl
          clear g2
          have q1 : ((c.toNat : Int) != (c.toNat : Int)) = false := by simp
          have r3 : decide (65 ≤ (c.toNat : Int)) = false := decide_eq_false (by omega)
          go_enter Tryd.func4, Tryd.ntmps4
          go_wp2_with fail
          refine (awake1 hk).mono ?_
          rintro e w1 ⟨rfl, hk1⟩
          go_wp2_with fail
          refine (c1 w1 hk1).mono ?_
          rintro e w2 ⟨rfl, hk2⟩
          go_wp2_with fail
          go_quiet (fail)
          go_wp2_with fail
          refine wp_region_oks (w0 := w) (by kernel_rfl) (by kernel_rfl) (by first | exact hk2.drewN _ | exact hk2) (fun _ => ?_)
          repeat (first | go_big_quiet_skip | (go_big_quiet_want; go_big_quiet_op; first | go_big_quiet_on | (apply Exists.intro; refine ⟨fun _ => ?_, ?_⟩; (first | (go_at_call 12; exact quiet_ok (c2 _ (Oks.ok _)))); go_big_quiet_on)))
          refine wpQuiet_nil ?_
          rintro _ ⟨⟨W, hW⟩, rfl⟩
          go_wp2
          go_ret
          exact ⟨rfl, hW.below⟩
        · rw [g2] at hgl
          clear g2
          have q1 : ((c.toNat : Int) != (c.toNat : Int)) = false := by simp
          have r3 : decide (65 ≤ (c.toNat : Int)) = true := decide_eq_true (by omega)
          have r4 : decide ((c.toNat : Int) ≤ 90) = false := decide_eq_false (by omega)
          go_enter Tryd.func4, Tryd.ntmps4
          go_wp2_with fail
          refine (awake1 hk).mono ?_
          rintro e w1 ⟨rfl, hk1⟩
          go_wp2_with fail
          refine (c1 w1 hk1).mono ?_
          rintro e w2 ⟨rfl, hk2⟩
          go_wp2_with fail
          go_quiet (fail)
          go_wp2_with fail
          refine wp_region_oks (w0 := w) (by kernel_rfl) (by kernel_rfl) (by first | exact hk2.drewN _ | exact hk2) (fun _ => ?_)
          repeat (first | go_big_quiet_skip | (go_big_quiet_want; go_big_quiet_op; first | go_big_quiet_on | (apply Exists.intro; refine ⟨fun _ => ?_, ?_⟩; (first | (go_at_call 12; exact quiet_ok (c2 _ (Oks.ok _)))); go_big_quiet_on)))
          refine wpQuiet_nil ?_
          rintro _ ⟨⟨W, hW⟩, rfl⟩
          go_wp2
          go_ret
          exact ⟨rfl, hW.below⟩
    | true =>
      obtain ⟨hst, hkt, d, hgd, hcd⟩ := hsame.out rfl
      have q5 : ((t.size : Int) == (s.size : Int)) = true := by rw [hst]; simp
      have d256 := d.toNat_lt
      have hal : d = c ∨ (alphaB c = true ∧ alphaB d = true ∧ ((d.toNat : Int) == (c.toNat : Int)) = false) := by
        by_cases e : d = c
        · exact .inl e
        · have := low_same hcd e
          exact .inr ⟨this.1, this.2, beq_eq_false_iff_ne.2 (fun h => e (UInt8.toNat_inj.1 (by omega)))⟩
      have ca := fun w1 => ascii_Alpha_any c w1
      have cb := fun w1 => ascii_Alpha_any d w1
      have HST := Lib.hid hst
      clear hsame hcd hst
      rcases hal with rfl | ⟨ha, hb, hne⟩
      · clear ca cb
        have q6 : ((d.toNat : Int) == (d.toNat : Int)) = true := by simp
        rcases hlw with ⟨g1, g2, g3⟩ | ⟨g1, g2⟩
        · have q1 : (((lowC d).toNat : Int) != (d.toNat : Int)) = true := by rw [bne_iff_ne]; omega
          have q2 : (((lowC d).toNat : Int) != (d.toNat : Int) + 32) = false := by rw [g3]; simp
          have g4 : 97 ≤ (lowC d).toNat := by omega
          clear g3
          generalize lowC d = lc at *
          have r1 : decide ((d.toNat : Int) < 65) = false := decide_eq_false (by omega)
          have r2 : decide (90 < (d.toNat : Int)) = false := decide_eq_false (by omega)
          have r3 : decide (65 ≤ (lc.toNat : Int)) = true := decide_eq_true (by omega)
          have r4 : decide ((lc.toNat : Int) ≤ 90) = false := decide_eq_false (by omega)
          have r5 : IntKind.u8.wrap ((d.toNat : Int) + 32) = (d.toNat : Int) + 32 := IntWalk.u8_in _ (by omega)
          go_enter Tryd.func4, Tryd.ntmps4
          go_wp2_with fail
          refine (awake1 hk).mono ?_
          rintro e w1 ⟨rfl, hk1⟩
          go_wp2_with fail
          refine (c1 w1 hk1).mono ?_
          rintro e w2 ⟨rfl, hk2⟩
          go_wp2_with fail
          go_quiet (fail)
          go_wp2_with fail
          refine wp_region_oks (w0 := w) (by kernel_rfl) (by kernel_rfl) (by first | exact hk2.drewN _ | exact hk2) (fun _ => ?_)
          repeat (first | go_big_quiet_skip | (go_big_quiet_want; go_big_quiet_op; first | go_big_quiet_on | (apply Exists.intro; refine ⟨fun _ => ?_, ?_⟩; (first | (go_at_call 12; exact quiet_ok (c2 _ (Oks.ok _)))); go_big_quiet_on)))
          refine wpQuiet_nil ?_
          rintro _ ⟨⟨W, hW⟩, rfl⟩
          go_wp2
          go_ret
          exact ⟨rfl, hW.below⟩
        · rcases g1 with g1 | g1
          · rw [g2] at hgl
            clear g2
            have q1 : ((d.toNat : Int) != (d.toNat : Int)) = false := by simp
            have r3 : decide (65 ≤ (d.toNat : Int)) = false := decide_eq_false (by omega)
            go_enter Tryd.func4, Tryd.ntmps4
            go_wp2_with fail
            refine (awake1 hk).mono ?_
            rintro e w1 ⟨rfl, hk1⟩
            go_wp2_with fail
            refine (c1 w1 hk1).mono ?_
            rintro e w2 ⟨rfl, hk2⟩
            go_wp2_with fail
            go_quiet (fail)
            go_wp2_with fail
            refine wp_region_oks (w0 := w) (by kernel_rfl) (by kernel_rfl) (by first | exact hk2.drewN _ | exact hk2) (fun _ => ?_)
            repeat (first | go_big_quiet_skip | (go_big_quiet_want; go_big_quiet_op; first | go_big_quiet_on | (apply Exists.intro; refine ⟨fun _ => ?_, ?_⟩; (first | (go_at_call 12; exact quiet_ok (c2 _ (Oks.ok _)))); go_big_quiet_on)))
            refine wpQuiet_nil ?_
            rintro _ ⟨⟨W, hW⟩, rfl⟩
            go_wp2
            go_ret
            exact ⟨rfl, hW.below⟩
          · rw [g2] at hgl
            clear g2
            have q1 : ((d.toNat : Int) != (d.toNat : Int)) = false := by simp
            have r3 : decide (65 ≤ (d.toNat : Int)) = true := decide_eq_true (by omega)
            have r4 : decide ((d.toNat : Int) ≤ 90) = false := decide_eq_false (by omega)
            go_enter Tryd.func4, Tryd.ntmps4
            go_wp2_with fail
            refine (awake1 hk).mono ?_
            rintro e w1 ⟨rfl, hk1⟩
            go_wp2_with fail
            refine (c1 w1 hk1).mono ?_
            rintro e w2 ⟨rfl, hk2⟩
            go_wp2_with fail
            go_quiet (fail)
            go_wp2_with fail
            refine wp_region_oks (w0 := w) (by kernel_rfl) (by kernel_rfl) (by first | exact hk2.drewN _ | exact hk2) (fun _ => ?_)
            repeat (first | go_big_quiet_skip | (go_big_quiet_want; go_big_quiet_op; first | go_big_quiet_on | (apply Exists.intro; refine ⟨fun _ => ?_, ?_⟩; (first | (go_at_call 12; exact quiet_ok (c2 _ (Oks.ok _)))); go_big_quiet_on)))
            refine wpQuiet_nil ?_
            rintro _ ⟨⟨W, hW⟩, rfl⟩
            go_wp2
            go_ret
            exact ⟨rfl, hW.below⟩
      · rw [ha] at ca
        rw [hb] at cb
        clear ha hb
        rcases hlw with ⟨g1, g2, g3⟩ | ⟨g1, g2⟩
        · have q1 : (((lowC c).toNat : Int) != (c.toNat : Int)) = true := by rw [bne_iff_ne]; omega
          have q2 : (((lowC c).toNat : Int) != (c.toNat : Int) + 32) = false := by rw [g3]; simp
          have g4 : 97 ≤ (lowC c).toNat := by omega
          clear g3
          generalize lowC c = lc at *
          have r1 : decide ((c.toNat : Int) < 65) = false := decide_eq_false (by omega)
          have r2 : decide (90 < (c.toNat : Int)) = false := decide_eq_false (by omega)
          have r3 : decide (65 ≤ (lc.toNat : Int)) = true := decide_eq_true (by omega)
          have r4 : decide ((lc.toNat : Int) ≤ 90) = false := decide_eq_false (by omega)
          have r5 : IntKind.u8.wrap ((c.toNat : Int) + 32) = (c.toNat : Int) + 32 := IntWalk.u8_in _ (by omega)
          go_enter Tryd.func4, Tryd.ntmps4
          go_wp2_with fail
          refine (awake1 hk).mono ?_
          rintro e w1 ⟨rfl, hk1⟩
          go_wp2_with fail
          refine (c1 w1 hk1).mono ?_
          rintro e w2 ⟨rfl, hk2⟩
          go_wp2_with fail
          go_quiet (fail)
          go_wp2_with fail
          refine wp_region_oks (w0 := w) (by kernel_rfl) (by kernel_rfl) (by first | exact hk2.drewN _ | exact hk2) (fun _ => ?_)
          repeat (first | go_big_quiet_skip | (go_big_quiet_want; go_big_quiet_op; first | go_big_quiet_on | (apply Exists.intro; refine ⟨fun _ => ?_, ?_⟩; (first | (go_at_call 12; exact quiet_ok (c2 _ (Oks.ok _))) | (go_at_call 13; (with_reducible exact quiet_same (ca _))) | (go_at_call 13; (with_reducible exact quiet_same (cb _)))); go_big_quiet_on)))
          refine wpQuiet_nil ?_
          rintro _ ⟨⟨W, hW⟩, rfl⟩
          go_wp2
          go_ret
          exact ⟨rfl, hW.below⟩
        · rcases g1 with g1 | g1
          · rw [g2] at hgl
            clear g2
            have q1 : ((c.toNat : Int) != (c.toNat : Int)) = false := by simp
            have r3 : decide (65 ≤ (c.toNat : Int)) = false := decide_eq_false (by omega)
            go_enter Tryd.func4, Tryd.ntmps4
            go_wp2_with fail
            refine (awake1 hk).mono ?_
            rintro e w1 ⟨rfl, hk1⟩
            go_wp2_with fail
            refine (c1 w1 hk1).mono ?_
            rintro e w2 ⟨rfl, hk2⟩
            go_wp2_with fail
            go_quiet (fail)
            go_wp2_with fail
            refine wp_region_oks (w0 := w) (by kernel_rfl) (by kernel_rfl) (by first | exact hk2.drewN _ | exact hk2) (fun _ => ?_)
            repeat (first | go_big_quiet_skip | (go_big_quiet_want; go_big_quiet_op; first | go_big_quiet_on | (apply Exists.intro; refine ⟨fun _ => ?_, ?_⟩; (first | (go_at_call 12; exact quiet_ok (c2 _ (Oks.ok _))) | (go_at_call 13; (with_reducible exact quiet_same (ca _))) | (go_at_call 13; (with_reducible exact quiet_same (cb _)))); go_big_quiet_on)))
            refine wpQuiet_nil ?_
            rintro _ ⟨⟨W, hW⟩, rfl⟩
            go_wp2
            go_ret
            exact ⟨rfl, hW.below⟩
          · rw [g2] at hgl
            clear g2
            have q1 : ((c.toNat : Int) != (c.toNat : Int)) = false := by simp
            have r3 : decide (65 ≤ (c.toNat : Int)) = true := decide_eq_true (by omega)
            have r4 : decide ((c.toNat : Int) ≤ 90) = false := decide_eq_false (by omega)
            go_enter Tryd.func4, Tryd.ntmps4
            go_wp2_with fail
            refine (awake1 hk).mono ?_
            rintro e w1 ⟨rfl, hk1⟩
            go_wp2_with fail
            refine (c1 w1 hk1).mono ?_
            rintro e w2 ⟨rfl, hk2⟩
            go_wp2_with fail
            go_quiet (fail)
            go_wp2_with fail
            refine wp_region_oks (w0 := w) (by kernel_rfl) (by kernel_rfl) (by first | exact hk2.drewN _ | exact hk2) (fun _ => ?_)
            repeat (first | go_big_quiet_skip | (go_big_quiet_want; go_big_quiet_op; first | go_big_quiet_on | (apply Exists.intro; refine ⟨fun _ => ?_, ?_⟩; (first | (go_at_call 12; exact quiet_ok (c2 _ (Oks.ok _))) | (go_at_call 13; (with_reducible exact quiet_same (ca _))) | (go_at_call 13; (with_reducible exact quiet_same (cb _)))); go_big_quiet_on)))
            refine wpQuiet_nil ?_
            rintro _ ⟨⟨W, hW⟩, rfl⟩
            go_wp2
            go_ret
            exact ⟨rfl, hW.below⟩
  · have hcs : 600 < s.size ∨ (s.size ≤ 600 ∧ 600 < t.size) ∨ (s.size ≤ 600 ∧ t.size ≤ 600 ∧ i < 0) ∨ (s.size ≤ 600 ∧ t.size ≤ 600 ∧ 0 ≤ i ∧ (s.size : Int) ≤ i) := by omega
    clear h1
    rcases hcs with h | ⟨h, h'⟩ | ⟨h, h', h''⟩ | ⟨h, h', h'', h3⟩
    all_goals
      go_enter Tryd.func4, Tryd.ntmps4
      go_wp2_with fail
      refine (awake1 hk).mono ?_
      rintro e w1 ⟨rfl, hk1⟩
      go_wp2
      go_ret
      exact ⟨rfl, hk1.below⟩

end Go.Proofs.YtcfbmeljjmhdpaaDoor
