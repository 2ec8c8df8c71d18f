/- Token: names of policies. -/
import Derived.Test.YtnppnogmpoigkaaDoorHead4
import Derived.Test.YtnppnogmpoigkaaDoorGood
import Derived.Test.YtnppnogmpoigkaaDoorRef1b
namespace Go.Proofs.YtnppnogmpoigkaaDoor
open Go.RowKit Go.Proofs.YtnppnogmpoigkaaDoorW.PrintWords
set_option linter.unusedVariables false
set_option linter.unnecessarySimpa false
set_option linter.unusedSimpArgs false

def polIs (s x : List UInt8) : Bool := !x.isEmpty && sameN s x
def idxI : Option Nat → Int
  | some k => k
  | none => -1
def polOf (s : List UInt8) : Nat := (polN.findIdx? (polIs s)).getD 0
def polName (p : Int) : List UInt8 := if 0 ≤ p ∧ p < 9 then polN.getD p.toNat [] else []
theorem find_hit {α : Type} {p : α → Bool} : ∀ (l : List α) (k : Nat) (x : α), l[k]? = some x → p x = true → (∀ j y, j < k → l[j]? = some y → p y = false) → l.findIdx? p = some k
  | [], _, _, h, _, _ => by simp at h
  | y :: l, 0, x, h, hp, _ => by
    obtain rfl : y = x := by simpa using h
    rw [List.findIdx?_cons, if_pos hp]
  | y :: l, k + 1, x, h, hp, hno => by
    have hy := hno 0 y (Nat.succ_pos _) rfl
    rw [List.findIdx?_cons, if_neg (by rw [hy]; decide), find_hit l k x (by simpa using h) hp (fun j z hj hz => hno (j + 1) z (by omega) (by simpa using hz))]
    rfl
theorem find_miss {α : Type} {p : α → Bool} : ∀ (l : List α), (∀ (j : Nat) (y : α), l[j]? = some y → p y = false) → l.findIdx? p = none
  | [], _ => rfl
  | y :: l, hno => by
    have hy := hno 0 y rfl
    rw [List.findIdx?_cons, if_neg (by rw [hy]; decide), find_miss l (fun j z hz => hno (j + 1) z (by simpa using hz))]
    rfl
theorem polN_small : ∀ x ∈ polN, x.length ≤ 40 := by decide
theorem pol_at : ∀ p : Nat, p < 9 → polN[p]? = some (polName p) := by decide

set_option maxHeartbeats 2000000 in
set_option maxRecDepth 100000 in
theorem tok_Name_any (p : Int) (w : World) (hG : Good w) :
    Calls Tryd.prog 16 #[.int .i64 p] w fun e w' => e = .returned (.string ⟨(polName p).toArray⟩) ∧ w' = w := by
  rcases Int.lt_or_le p 0 with h | h
  · have q0 : decide (p < 0) = true := decide_eq_true h
    have hn : polName p = [] := by unfold polName; rw [if_neg (by omega)]
    rw [hn]
    clear h hn
    go_enter Tryd.func16, Tryd.ntmps16
    go_wp2
    go_ret
    exact ⟨rfl, rfl⟩
  · have q0 : decide (p < 0) = false := decide_eq_false (by omega)
    obtain ⟨k, rfl⟩ : ∃ k : Nat, p = k := ⟨p.toNat, by omega⟩
    rcases Nat.lt_or_ge k 9 with hk | hk
    · have q1 : decide ((9 : Int) ≤ (k : Int)) = false := decide_eq_false (by omega)
      have q1n : decide (9 ≤ k) = false := decide_eq_false (by omega)
      have hc := hG.names k _ (pol_at k hk)
      go_enter Tryd.func16, Tryd.ntmps16
      go_wp2
      go_ret
      exact ⟨rfl, rfl⟩
    · have q1 : decide ((9 : Int) ≤ (k : Int)) = true := decide_eq_true (by omega)
      have q1n : decide (9 ≤ k) = true := decide_eq_true hk
      have hn : polName (k : Int) = [] := by unfold polName; rw [if_neg (by omega)]
      rw [hn]
      clear hn
      go_enter Tryd.func16, Tryd.ntmps16
      go_wp2
      go_ret
      exact ⟨rfl, rfl⟩

set_option maxHeartbeats 2000000 in
set_option maxRecDepth 100000 in
theorem ref14_Name_any (p : Int) (w : World) :
    Calls Tryd.prog 17 #[.int .i64 p] w fun e w' => e = .returned (.string ⟨(polName p).toArray⟩) ∧ w' = w := by
  by_cases h : 1 ≤ p ∧ p ≤ 8
  · rcases (by omega : p = 1 ∨ p = 2 ∨ p = 3 ∨ p = 4 ∨ p = 5 ∨ p = 6 ∨ p = 7 ∨ p = 8) with rfl | rfl | rfl | rfl | rfl | rfl | rfl | rfl <;> (
      go_enter Tryd.func17, Tryd.ntmps17
      go_wp2
      go_ret
      exact ⟨rfl, rfl⟩)
  · have hn : polName p = [] := by
      unfold polName
      by_cases h0 : 0 ≤ p ∧ p < 9
      · obtain rfl : p = 0 := by omega
        rfl
      · rw [if_neg h0]
    rw [hn]
    have q1 : (p == 1) = false := beq_eq_false_iff_ne.2 (by omega)
    have q2 : (p == 2) = false := beq_eq_false_iff_ne.2 (by omega)
    have q3 : (p == 3) = false := beq_eq_false_iff_ne.2 (by omega)
    have q4 : (p == 4) = false := beq_eq_false_iff_ne.2 (by omega)
    have q5 : (p == 5) = false := beq_eq_false_iff_ne.2 (by omega)
    have q6 : (p == 6) = false := beq_eq_false_iff_ne.2 (by omega)
    have q7 : (p == 7) = false := beq_eq_false_iff_ne.2 (by omega)
    have q8 : (p == 8) = false := beq_eq_false_iff_ne.2 (by omega)
    clear h hn
    go_enter Tryd.func17, Tryd.ntmps17
    go_wp2
    go_ret
    exact ⟨rfl, rfl⟩

set_option maxHeartbeats 2000000 in
theorem Policy1_any (X : ByteArray) (a : List UInt8) (hX : X.size ≤ 1000000) (ha : a.length ≤ 1000000) (b : Nat) (w : World) (hc : w.cell? ⟨b, 0, none⟩ = some (.string ⟨a.toArray⟩)) :
    Calls Tryd.prog 28 #[.string X, .pointer (some ⟨b, 0, none⟩)] w fun e w' => e = .returned (.bool (polIs a X.data.toList)) ∧ Below w.heap.size w w' := by
  have hcs := fun w1 => ascii_Same_any ⟨a.toArray⟩ X (by rw [ba_len]; omega) (by omega) w1
  rw [mk_toList] at hcs
  unfold polIs
  have hx : X.toList.isEmpty = X.data.toList.isEmpty := by rw [ba_toList]
  rw [← hx]
  change ∀ w1, Calls Tryd.prog 23 #[.string ⟨a.toArray⟩, .string X] w1 fun e w' => e = .returned (.bool (sameN a X.data.toList)) ∧ Below w1.heap.size w1 w' at hcs
  generalize sameN a X.data.toList = sb at *
  clear hx
  cases hq : X.toList.isEmpty
  · go_enter Tryd.func28, Tryd.ntmps28
    go_wp2_with fail
    refine (hcs _).mono ?_
    rintro e w1 ⟨rfl, hb1⟩
    go_wp2
    go_ret
    exact ⟨rfl, hb1⟩
  · go_enter Tryd.func28, Tryd.ntmps28
    go_wp2
    go_ret
    exact ⟨rfl, Below.refl _ _⟩

set_option maxHeartbeats 2000000 in
set_option maxRecDepth 100000 in
theorem idxP_any (ao : Option Addr) (cap n₀ : Nat) (names : List (List UInt8)) (hN : names.length ≤ 1000000) (hall : ∀ x ∈ names, x.length ≤ 40) (a : List UInt8) (ha : a.length ≤ 1000000) (b : Nat) (w : World) (hn0 : n₀ ≤ w.heap.size) (hT : TextsAt n₀ w ao names)
    (hb : b < w.heap.size) (hc : w.cell? ⟨b, 0, none⟩ = some (.string ⟨a.toArray⟩)) :
    Calls Tryd.prog 27 #[.slice ao names.length cap, .func (.func 28) #[] #[.pointer (some ⟨b, 0, none⟩)]] w fun e w' => e = .returned (.int .i64 (idxI (names.findIdx? (polIs a)))) ∧ Below w.heap.size w w' := by
  have HT := Lib.hid hT
  have HA := Lib.hid hall
  have HB := Lib.hid hc
  clear hT hall hc
  go_enter Tryd.func27, Tryd.ntmps27
  go_wp2
  go_loopw [8] (fun i wr => ∃ k : Nat, k ≤ names.length ∧ i = .int .i64 k ∧ Hid (∀ j y, j < k → names[j]? = some y → polIs a y = false) ∧ Below w.heap.size w wr) (fun i _ => names.length - (intOf i).toNat)
  case atStart => exact ⟨0, by omega, rfl, (fun j y h => absurd h (Nat.not_lt_zero _)), Below.refl _ _⟩
  case round =>
    obtain ⟨k, hk, rfl, hno, hbl⟩ := hrel
    by_cases hkl : k < names.length
    · obtain ⟨x, hx⟩ : ∃ x, names[k]? = some x := ⟨_, List.getElem?_eq_getElem hkl⟩
      obtain ⟨g, off, rfl, hg, hc1⟩ := HT.out k _ hx
      have hcx := (hbl.cell (p := ⟨g, off + k, none⟩) (show g < w.heap.size by omega)).trans hc1
      have hcb := (hbl.cell (p := ⟨b, 0, none⟩) hb).trans HB.out
      have hxl := HA.out x (List.mem_of_getElem? hx)
      have hcs := Policy1_any ⟨x.toArray⟩ a (by rw [ba_len]; omega) ha b wr hcb
      rw [mk_toList] at hcs
      have HX := Lib.hid hx
      clear hx hc1 hcb
      cases hs : polIs a x with
      | true =>
        rw [hs] at hcs
        go_wp2_with (first | (go_at_call 28; refine hcs.mono ?_; rintro e w1 ⟨rfl, hb1⟩))
        go_ret
        exact ⟨by rw [find_hit names k x HX.out hs hno.out]; rfl, below_on hbl hbl.size hb1⟩
      | false =>
        rw [hs] at hcs
        go_wp2_with (first | (go_at_call 28; refine hcs.mono ?_; rintro e w1 ⟨rfl, hb1⟩))
        go_roundw
        case rel =>
          refine ⟨k + 1, by omega, by go_num, fun j y hj hy => ?_, below_on hbl hbl.size hb1⟩
          rcases Nat.lt_or_ge j k with h | h
          · exact hno.out j y h hy
          · obtain rfl : j = k := by omega
            rw [HX.out] at hy
            obtain rfl := Option.some.inj hy
            exact hs
        case measure => simp [intOf]; omega
    · obtain rfl : k = names.length := by omega
      have hm := Lib.hid (find_miss names (fun j y hy => hno.out j y (List.getElem?_eq_some_iff.1 hy).1 hy))
      go_wp2
      go_ret
      exact ⟨by rw [hm.out]; rfl, hbl⟩

set_option maxHeartbeats 2000000 in
set_option maxRecDepth 100000 in
theorem tok_Policy_any (s : List UInt8) (hs : s.length ≤ 1000000) (w : World) (hG : Good w) :
    Calls Tryd.prog 14 #[.string ⟨s.toArray⟩] w fun e w' => e = .returned (.int .i64 (polOf s)) ∧ Below w.heap.size w w' := by
  have hG1 := hG.alloc (.cells #[.string ⟨s.toArray⟩] 9)
  have hnew := heap_alloc_new w (.cells #[.string ⟨s.toArray⟩] 9)
  have hT : TextsAt (w.alloc (.cells #[.string ⟨s.toArray⟩] 9)).heap.size (w.alloc (.cells #[.string ⟨s.toArray⟩] 9)) (some ⟨0, 0, none⟩) polN := fun j x hj => ⟨0, 0, rfl, World.block_lt_of_cell? _ _ (hG1.names j x hj), by rw [Nat.zero_add]; exact hG1.names j x hj⟩
  have hI := idxP_any (some ⟨0, 0, none⟩) 9 _ polN (by decide) polN_small s hs w.heap.size _ (Nat.le_refl _) hT (by rw [World.size_alloc]; exact Nat.lt_succ_self _) (by rw [cell_of_row _ _ _ _ _ _ hnew]; rfl)
  have hal : Below w.heap.size w (w.alloc (.cells #[.string ⟨s.toArray⟩] 9)) := (Below.refl _ _).alloc (Nat.le_refl _) _
  unfold polOf
  clear hT hnew hG1
  cases ho : polN.findIdx? (polIs s) with
  | none =>
    rw [ho] at hI
    go_enter Tryd.func14, Tryd.ntmps14
    go_wp2_with fail
    refine hI.mono ?_
    rintro e w1 ⟨rfl, hb1⟩
    go_wp2
    go_ret
    exact ⟨rfl, below_on hal hal.size hb1⟩
  | some k =>
    rw [ho] at hI
    go_enter Tryd.func14, Tryd.ntmps14
    go_wp2_with fail
    refine hI.mono ?_
    rintro e w1 ⟨rfl, hb1⟩
    go_wp2
    go_ret
    exact ⟨rfl, below_on hal hal.size hb1⟩

end Go.Proofs.YtnppnogmpoigkaaDoor
