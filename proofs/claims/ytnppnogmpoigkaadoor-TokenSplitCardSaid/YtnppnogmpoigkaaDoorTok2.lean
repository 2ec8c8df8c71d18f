/- Token: the reference's Policy. -/
import Derived.Test.YtnppnogmpoigkaaDoorTok1
namespace Go.Proofs.YtnppnogmpoigkaaDoor
open Go.RowKit Go.Proofs.YtnppnogmpoigkaaDoorW.PrintWords
set_option linter.unusedVariables false
set_option linter.unnecessarySimpa false
set_option linter.unusedSimpArgs false

theorem pol_full : ∀ p : Nat, p < 9 → 1 ≤ p → (polName p).isEmpty = false := by decide
theorem polName_len (p : Int) : (polName p).length ≤ 40 := by
  unfold polName
  split
  · rename_i h
    obtain ⟨k, rfl⟩ : ∃ k : Nat, p = k := ⟨p.toNat, by omega⟩
    have hk : k < 9 := by omega
    have := pol_at k hk
    unfold polName at this
    rw [if_pos h] at this
    exact polN_small _ (List.mem_of_getElem? this)
  · exact Nat.zero_le _
theorem pol_is {k : Nat} (hk : k < 9) (h1 : 1 ≤ k) (s : List UInt8) : polIs s (polName k) = sameN s (polName k) := by
  unfold polIs
  rw [pol_full k hk h1]; rfl
theorem pol_none {s : List UInt8} (h : ∀ j : Nat, 1 ≤ j → j < 9 → sameN s (polName j) = false) : polOf s = 0 := by
  unfold polOf
  rw [find_miss polN (fun j y hy => ?_)]
  · rfl
  · have hj : j < 9 := (List.getElem?_eq_some_iff.1 hy).1
    rw [pol_at j hj] at hy
    obtain rfl := Option.some.inj hy
    rcases Nat.eq_zero_or_pos j with rfl | h1
    · rfl
    · rw [pol_is hj h1]; exact h j h1 hj
theorem pol_some {s : List UInt8} {k : Nat} (hk : k < 9) (h1 : 1 ≤ k) (hs : sameN s (polName k) = true) (h : ∀ j : Nat, 1 ≤ j → j < k → sameN s (polName j) = false) : polOf s = k := by
  unfold polOf
  rw [find_hit polN k (polName k) (pol_at k hk) (by rw [pol_is hk h1]; exact hs) (fun j y hj hy => ?_)]
  · rfl
  · rw [pol_at j (by omega)] at hy
    obtain rfl := Option.some.inj hy
    rcases Nat.eq_zero_or_pos j with rfl | h2
    · rfl
    · rw [pol_is (by omega) h2]; exact h j h2 hj

set_option maxHeartbeats 2000000 in
set_option maxRecDepth 100000 in
theorem ref14_Policy_any (s : List UInt8) (hs : s.length ≤ 1000000) (w : World) :
    Calls Tryd.prog 15 #[.string ⟨s.toArray⟩] w fun e w' => e = .returned (.int .i64 (polOf s)) ∧ Below w.heap.size w w' := by
  go_enter Tryd.func15, Tryd.ntmps15
  go_wp2
  go_loopw [3] (fun i wr => ∃ k : Nat, 1 ≤ k ∧ k ≤ 9 ∧ i = .int .i64 k ∧ Hid (∀ j : Nat, 1 ≤ j → j < k → sameN s (polName j) = false) ∧ Below w.heap.size w wr) (fun i _ => 9 - (intOf i).toNat)
  case atStart => exact ⟨1, by omega, by omega, rfl, (fun j h1 h2 => by omega), Below.refl _ _⟩
  case round =>
    obtain ⟨k, hk1, hk, rfl, hno, hbl⟩ := hrel
    by_cases hkl : k < 9
    · have cN := ref14_Name_any (k : Int) wr
      have cS := fun w1 => ref1_Same ⟨s.toArray⟩ ⟨(polName (k : Int)).toArray⟩ (by rw [ba_len]; omega) (by rw [ba_len]; have := polName_len k; omega) w1
      rw [mk_toList, mk_toList] at cS
      change ∀ w1, Calls Tryd.prog 29 #[.string ⟨s.toArray⟩, .string ⟨(polName (k : Int)).toArray⟩] w1 fun e w' => e = .returned (.bool (sameN s (polName (k : Int)))) ∧ Below w1.heap.size w1 w' at cS
      have q0 : decide ((k : Int) < 9) = true := decide_eq_true (by omega)
      have q0n : decide (k < 9) = true := decide_eq_true hkl
      cases hsm : sameN s (polName (k : Int)) with
      | true =>
        have hp := Lib.hid (pol_some hkl hk1 hsm hno.out)
        rw [hsm] at cS
        clear hsm
        go_wp2_with (first | (go_at_call 17; refine cN.mono ?_; rintro e w1 ⟨rfl, rfl⟩) | (go_at_call 29; refine (cS _).mono ?_; rintro e w2 ⟨rfl, hb2⟩))
        go_ret
        exact ⟨by rw [hp.out]; rfl, below_on hbl hbl.size hb2⟩
      | false =>
        have hn : Hid (∀ j : Nat, 1 ≤ j → j < k + 1 → sameN s (polName j) = false) := fun j h1 h2 => by
          rcases Nat.lt_or_ge j k with h | h
          · exact hno.out j h1 h
          · obtain rfl : j = k := by omega
            exact hsm
        rw [hsm] at cS
        clear hsm
        go_wp2_with (first | (go_at_call 17; refine cN.mono ?_; rintro e w1 ⟨rfl, rfl⟩) | (go_at_call 29; refine (cS _).mono ?_; rintro e w2 ⟨rfl, hb2⟩))
        exact ⟨⟨k + 1, by omega, by omega, by go_num, hn, below_on hbl hbl.size hb2⟩, by simp [intOf]; omega⟩
    · obtain rfl : k = 9 := by omega
      have hp := Lib.hid (pol_none hno.out)
      go_wp2
      go_ret
      exact ⟨by rw [hp.out]; rfl, hbl⟩

end Go.Proofs.YtnppnogmpoigkaaDoor
