/- The law SixRun, walked over the contracts. -/
import Derived.Test.YtcpnfokpgiigcaaDoorLaw6
import Derived.Test.YtcpnfokpgiigcaaDoorSixL
import Derived.OpenShut
namespace Go.Proofs.YtcpnfokpgiigcaaDoor
open Go.RowKit Go.Proofs.YtcpnfokpgiigcaaDoorW.PrintWords

set_option maxHeartbeats 4000000 in
set_option maxRecDepth 100000 in
theorem law_SixRun (p : List Int) (i k : Int) (h8 : p.length = 8) (_hw : ∀ x ∈ p, (Lit.int .i64 x).wf = true) (hi : (Lit.int .i64 i).wf = true) (hk : (Lit.int .i64 k).wf = true) (w : World) (hG : Good w) :
    Calls Tryd.prog 11 #[.agg (ints p).toArray, .int .i64 i, .int .i64 k] w fun e w' => e = .returned (.bool true) ∧ Below w.heap.size w w' := by
  have bi := bounds_i64 hi
  have bk := bounds_i64 hk
  clear hi hk
  have hk0 : Ok w (w.alloc (.cells (ints p).toArray 33)) := (Ok.refl hG).alloc _
  have rP0 := IntRow.new w 33 p
  have cR := fun {w : World} (hG : Good w) => oRun6 (Ok.refl hG) p h8
  have hok := runR_ok p
  have hmost := runR_most p
  have hz := hok.zero
  have ho := hok.one
  have hin := hok.inside
  have hno := hok.nought
  rw [h8] at hin
  clear hok
  generalize (runR p).1 = a at *
  generalize (runR p).2 = n at *
  have hza : n = 0 → (a : Int) = 0 := fun h => by rw [hz h]; rfl
  clear hz
  have HN := Lib.hid hno
  have HM := Lib.hid hmost
  clear hno hmost
  have hn1 : ¬ (n : Int) = 1 := by omega
  have hn0 : (n : Int) = 0 → (a : Int) = 0 := fun h => hza (by omega)
  clear hza
  go_enter Tryd.func11, Tryd.ntmps11
  go_wp2_with fail
  refine (awake6 (Ok.refl hk0.good)).mono ?_
  rintro e w1 ⟨rfl, hm1⟩
  have hk1 := hk0.step hm1.below
  have rP1 := rP0.below hm1.below rP0.lt
  clear rP0
  clear hm1
  go_wp2_with (first
      | (refine wpList_load_row rfl 33 _ rfl _ rfl 33 (ints p).toArray (0, 0) _ rP1 Tryd.underlying33 rfl (sz8 h8) ?_))
  refine (cR hk1.good).mono ?_
  rintro e w2 ⟨rfl, hm2⟩
  have hk2 := hk1.step hm2.below
  have rP2 := rP1.below hm2.below rP1.lt
  clear rP1
  clear hm2
  clear cR
  go_wp2
  all_goals first | (exfalso; rename_i h; simp at h; omega) | skip
  all_goals (
  go_loopw [10] (fun j wr => ∃ m : Nat, a ≤ m ∧ m ≤ a + n ∧ j = .int .i64 m ∧ IntRow wr w.heap.size 33 p ∧ Ok w wr) (fun j _ => a + n - (intOf j).toNat)
  case atStart => exact ⟨a, by omega, by omega, by first | rfl | (congr 1; omega), rP2, hk2⟩
  case round =>
    obtain ⟨w3, rfl⟩ : ∃ w3, w3 = wr := ⟨_, rfl⟩
    obtain ⟨m, hm1, hm2, rfl, rP3, hk3⟩ := hrel
    clear rP2 hk2
    by_cases hmn : m < a + n
    · have hc := rP3.cell (HN.out m hm1 hmn)
      go_wp2
      all_goals refine ⟨⟨m + 1, by omega, by omega, by go_num, rP3, hk3⟩, by simp [intOf]; omega⟩
    · obtain rfl : m = a + n := by omega
      clear hmn hm1 hm2
      by_cases h1 : i < 0
      · go_wp2
        go_ret
        exact ⟨rfl, hk3.below⟩
      by_cases h2 : k < 2
      · go_wp2
        go_ret
        exact ⟨rfl, hk3.below⟩
      have hwk : IntKind.i64.wrap (8 - k) = 8 - k := by rw [IntKind.wrap_i64]; omega
      by_cases h3 : 8 - k < i
      · go_wp2
        go_ret
        exact ⟨rfl, hk3.below⟩
      by_cases h4 : 8 < k
      · go_wp2
        go_ret
        exact ⟨rfl, hk3.below⟩
      obtain ⟨I, rfl⟩ : ∃ I : Nat, i = (I : Int) := ⟨i.toNat, by omega⟩
      obtain ⟨K, rfl⟩ : ∃ K : Nat, k = (K : Int) := ⟨k.toNat, by omega⟩
      have hIK : I + K ≤ 8 := by omega
      go_wp2
      go_loopw [11] (fun j wr => ∃ m : Nat, I ≤ m ∧ m ≤ I + K ∧ j = .int .i64 m ∧ (∀ x, I ≤ x → x < m → p[x]? = some 0) ∧ IntRow wr w.heap.size 33 p ∧ Ok w wr) (fun j _ => I + K - (intOf j).toNat)
      case atStart => exact ⟨I, by omega, by omega, rfl, fun x h1 h2 => by omega, rP3, hk3⟩
      case round =>
        obtain ⟨w4, rfl⟩ : ∃ w4, w4 = wr := ⟨_, rfl⟩
        obtain ⟨m, hm1, hm2, rfl, hzz, rP4, hk4⟩ := hrel
        clear rP3 hk3
        have HZ := Lib.hid hzz
        clear hzz
        by_cases hmn : m < I + K
        · obtain ⟨x, hx⟩ : ∃ x, p[m]? = some x := ⟨_, List.getElem?_eq_getElem (by omega)⟩
          have hc := rP4.cell hx
          have HX := Lib.hid hx
          clear hx
          by_cases hx0 : x = 0
          · subst hx0
            go_wp2
            refine ⟨⟨m + 1, by omega, by omega, by go_num, fun y h1 h2 => ?_, rP4, hk4⟩, by simp [intOf]; omega⟩
            by_cases hy : y < m
            · exact HZ.out y h1 hy
            · obtain rfl : y = m := by omega
              exact HX.out
          · go_wp2
            all_goals go_ret
            all_goals exact ⟨rfl, hk4.below⟩
        · obtain rfl : m = I + K := by omega
          have hmost := HM.out I K (by omega) (by omega) (fun y h1 h2 => HZ.out y h1 h2)
          by_cases hlt : (K : Int) < n
          · go_wp2
            all_goals go_ret
            all_goals exact ⟨rfl, hk4.below⟩
          · have hKn : (K : Int) = n := by omega
            have haI : (a : Int) ≤ I := by omega
            clear hmost
            go_wp2
            all_goals go_ret
            all_goals exact ⟨rfl, hk4.below⟩)

end Go.Proofs.YtcpnfokpgiigcaaDoor
