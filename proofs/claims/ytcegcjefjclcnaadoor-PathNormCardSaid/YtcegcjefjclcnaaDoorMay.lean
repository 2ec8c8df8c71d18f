/- path.May. -/
import Derived.Test.YtcegcjefjclcnaaDoorDots
import Derived.Test.YtcegcjefjclcnaaDoorPut
import Derived.Test.YtcegcjefjclcnaaDoorSeg
import Derived.Test.YtcegcjefjclcnaaDoorGood
namespace Go.Proofs.YtcegcjefjclcnaaDoor
open Go.RowKit Go.Proofs.YtcegcjefjclcnaaDoorW.PrintWords

/-- A segment that may not be. -/
def oddB (x : List UInt8) : Bool := !(encode3 x == x) || (hasC x 47 || decide (0 < dotsN x))
def mayL (l : List (List UInt8)) : Bool := decide (0 < l.length) && !l.any oddB

set_option maxHeartbeats 2000000 in
theorem May1_any (x : List UInt8) (hx : x.length ≤ 1000000) (w : World) :
    Calls Tryd.prog 23 #[.string ⟨x.toArray⟩] w fun e w' => e = .returned (.bool (oddB x)) ∧ Below w.heap.size w w' := by
  have h1 := pct_Ready3 ⟨x.toArray⟩ (by show x.length ≤ _; omega) w
  have h2 := fun w1 => Tryd.strings_Contains_one ⟨x.toArray⟩ 47 w1
  have h3 := fun w1 => path_Dots_any ⟨x.toArray⟩ (by show x.length ≤ _; omega) w1
  rw [mk_toList] at h1
  simp only [mk_toList] at h2 h3
  change ∀ w1, Calls _ _ _ w1 (fun e w' => e = .returned (.bool (hasC x 47)) ∧ w' = w1) at h2
  unfold oddB
  generalize (encode3 x == x) = r at *
  generalize hasC x 47 = c at *
  generalize dotsN x = d at *
  go_enter Tryd.func23, Tryd.ntmps23
  cases r with
  | false =>
    go_wp2_with fail
    refine h1.mono ?_
    rintro e w1 ⟨rfl, hb1⟩
    go_wp2
    go_ret
    exact ⟨rfl, hb1⟩
  | true =>
    cases c with
    | true =>
      go_wp2_with (first | (go_at_call 24; refine h1.mono ?_; rintro e w1 ⟨rfl, hb1⟩) | (go_at_call 25; refine (h2 _).mono ?_; rintro e w2 ⟨rfl, rfl⟩))
      go_ret
      exact ⟨rfl, hb1⟩
    | false =>
      by_cases hd : 0 < d
      · have hq : decide (0 < (d : Int)) = true := by simp; omega
        have hq2 : decide (0 < d) = true := by simp; omega
        rw [hq2]
        clear hq2
        go_wp2_with (first | (go_at_call 24; refine h1.mono ?_; rintro e w1 ⟨rfl, hb1⟩) | (go_at_call 25; refine (h2 _).mono ?_; rintro e w2 ⟨rfl, rfl⟩) | (go_at_call 16; refine (h3 _).mono ?_; rintro e w3 ⟨rfl, hb3⟩))
        go_ret
        exact ⟨rfl, below_on hb1 hb1.size hb3⟩
      · obtain rfl : d = 0 := by omega
        go_wp2_with (first | (go_at_call 24; refine h1.mono ?_; rintro e w1 ⟨rfl, hb1⟩) | (go_at_call 25; refine (h2 _).mono ?_; rintro e w2 ⟨rfl, rfl⟩) | (go_at_call 16; refine (h3 _).mono ?_; rintro e w3 ⟨rfl, hb3⟩))
        go_ret
        exact ⟨rfl, below_on hb1 hb1.size hb3⟩

set_option maxHeartbeats 2000000 in
set_option maxRecDepth 100000 in
/-- slices.IndexFunc with that test. -/
theorem IndexFunc_odd (sv : Value) (l : List (List UInt8)) (hl : l.length ≤ 1000000) (hall : ∀ x ∈ l, x.length ≤ 1000000) (w : World) (hT : Texts w.heap.size w sv l) :
    Calls Tryd.prog 38 #[sv, .func (.func 23) #[] #[]] w fun e w' => ∃ r : Int, e = .returned (.int .i64 r) ∧ decide (0 ≤ r) = l.any oddB ∧ Below w.heap.size w w' := by
  rcases hT with ⟨rfl, rfl⟩ | ⟨b, off, cap, rfl, hb, hc⟩
  · go_enter Tryd.func38, Tryd.ntmps38
    go_wp2
    go_loopw [5, 8] (fun _ i wr => i = .int .i64 0 ∧ Below w.heap.size w wr) (fun _ _ _ => 0)
    case atStart => exact ⟨rfl, Below.refl _ _⟩
    case round =>
      obtain ⟨rfl, hb⟩ := hrel
      go_wp2
      go_ret
      exact ⟨-1, rfl, rfl, hb⟩
  · go_enter Tryd.func38, Tryd.ntmps38
    go_wp2
    go_loopw [5, 8] (fun _ i wr => ∃ k : Nat, k ≤ l.length ∧ i = .int .i64 k ∧ (l.take k).any oddB = false ∧ Below w.heap.size w wr) (fun _ i _ => l.length - (intOf i).toNat)
    case atStart => exact ⟨0, by omega, rfl, rfl, Below.refl _ _⟩
    case round =>
      obtain ⟨k, hk, rfl, hno, hbl⟩ := hrel
      by_cases hlt : k < l.length
      · obtain ⟨x, hx⟩ : ∃ x, l[k]? = some x := ⟨_, List.getElem?_eq_getElem hlt⟩
        have hcx : wr.cell? ⟨b, off + k, none⟩ = some (.string ⟨x.toArray⟩) := (hbl.cell (p := ⟨b, off + k, none⟩) hb).trans (hc k x hx)
        have hm := May1_any x (hall x (List.mem_of_getElem? hx)) wr
        have hmem := List.mem_of_getElem? hx
        have hsn : (l.take (k + 1)).any oddB = oddB x := by rw [List.take_add_one, hx, List.any_append, hno]; simp
        have HS := Lib.hid hsn
        have HM := Lib.hid hmem
        clear hx hsn hmem hc
        cases ho : oddB x with
        | true =>
          rw [ho] at hm
          go_wp2_with fail
          refine hm.mono ?_
          rintro e w1 ⟨rfl, hb1⟩
          go_wp2
          go_ret
          exact ⟨k, rfl, by rw [List.any_eq_true.2 ⟨x, HM.out, ho⟩]; simp, below_on hbl hbl.size hb1⟩
        | false =>
          rw [ho] at hm HS
          go_wp2_with fail
          refine hm.mono ?_
          rintro e w1 ⟨rfl, hb1⟩
          go_wp2
          refine ⟨⟨k + 1, by omega, by go_num, HS.out, below_on hbl hbl.size hb1⟩, by simp [intOf]; omega⟩
      · obtain rfl : k = l.length := by omega
        rw [List.take_length] at hno
        go_wp2
        go_ret
        exact ⟨-1, rfl, by rw [hno]; rfl, hbl⟩

theorem ContainsFunc_odd (sv : Value) (l : List (List UInt8)) (hl : l.length ≤ 1000000) (hall : ∀ x ∈ l, x.length ≤ 1000000) (w : World) (hT : Texts w.heap.size w sv l) :
    Calls Tryd.prog 26 #[sv, .func (.func 23) #[] #[]] w fun e w' => e = .returned (.bool (l.any oddB)) ∧ Below w.heap.size w w' := by
  have h := IndexFunc_odd sv l hl hall w hT
  generalize l.any oddB = c at *
  go_enter Tryd.func26, Tryd.ntmps26
  go_wp2_with fail
  refine h.mono ?_
  rintro e w1 ⟨r, rfl, hr, hb⟩
  go_wp2
  go_ret
  exact ⟨by rw [← hr]; rfl, hb⟩

set_option maxHeartbeats 1000000 in
theorem path_May_any (sv : Value) (l : List (List UInt8)) (hl : l.length ≤ 1000000) (hall : ∀ x ∈ l, x.length ≤ 1000000) (w : World) (hT : Texts w.heap.size w sv l) :
    Calls Tryd.prog 14 #[sv] w fun e w' => e = .returned (.bool (mayL l)) ∧ Below w.heap.size w w' := by
  have h := ContainsFunc_odd sv l hl hall w hT
  unfold mayL
  rcases hT with ⟨rfl, rfl⟩ | ⟨b, off, cap, rfl, hb, hc⟩
  · go_enter Tryd.func14, Tryd.ntmps14
    go_wp2
    go_ret
    exact ⟨rfl, Below.refl _ _⟩
  · clear hc
    generalize l.any oddB = c at *
    by_cases h0 : 0 < l.length
    · have h1 : decide (0 < l.length) = true := decide_eq_true h0
      have h2 : decide (0 < (l.length : Int)) = true := decide_eq_true (by omega)
      rw [h1]
      go_enter Tryd.func14, Tryd.ntmps14
      go_wp2_with fail
      refine h.mono ?_
      rintro e w1 ⟨rfl, hb1⟩
      go_wp2
      go_ret
      exact ⟨rfl, hb1⟩
    · have h1 : decide (0 < l.length) = false := decide_eq_false h0
      have h2 : decide (0 < (l.length : Int)) = false := decide_eq_false (by omega)
      rw [h1]
      go_enter Tryd.func14, Tryd.ntmps14
      go_wp2
      go_ret
      exact ⟨rfl, Below.refl _ _⟩

end Go.Proofs.YtcegcjefjclcnaaDoor
