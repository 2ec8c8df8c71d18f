/- The law HeadTells, walked over the contracts. -/
import Derived.Test.YtgbjofahmkeapaaDoorHeadU
import Derived.Test.YtgbjofahmkeapaaDoorHeadP
import Derived.Test.YtgbjofahmkeapaaDoorHead0
namespace Go.Proofs.YtgbjofahmkeapaaDoor
open Go.RowKit Go.Proofs.YtgbjofahmkeapaaDoorW.PrintWords
set_option linter.unusedVariables false
set_option linter.unnecessarySimpa false
set_option linter.unusedSimpArgs false

theorem few_sm5 {L : List Fld} (h : few13 L = true) : SmF 60 L := few13_yes h
theorem nl_len (raw : List UInt8) : nl raw ≤ raw.length := by
  rcases Nat.eq_zero_or_pos (nl raw) with h | h
  · omega
  · have h1 := nl_ne (raw := raw) (k := nl raw - 1) (by omega)
    rcases restK_le raw (nl raw - 1) with h2 | h2
    · have := List.length_pos_iff.2 h1
      omega
    · exact absurd h2 h1
theorem parse_len (raw : List UInt8) : (parseHd raw).1.length ≤ raw.length := by
  unfold parseHd
  split
  · refine Nat.le_trans (List.length_filterMap_le _ _) ?_
    unfold linesL
    rw [upto_length]
    exact nl_len raw
  · exact Nat.zero_le _
section
variable {k : Nat} {L : List Fld} (h : SmF k L) (hk : k ≤ 900000) {ao : Option Addr} {cap : Nat} {w : World} (hc : Flds w.heap.size w (.slice ao L.length cap) L)
include h hk hc
theorem r_All {n : List UInt8} (hn : n.length ≤ 1000000) :
    Calls Tryd.prog 19 #[.slice ao L.length cap, .string ⟨n.toArray⟩] w fun e w' => ∃ v, e = .returned v ∧ w'.ownsRow w.heap.size 9 1 v (allL n L).length (strs (allL n L)) ∧ Below w.heap.size w w' := by
  have := ref13_All_any ao cap L (Nat.le_trans h.1 (by omega)) h.all ⟨n.toArray⟩ (by rw [ba_len]; exact hn) w hc.fa
  rwa [mk_toList] at this
theorem r_Get {n : List UInt8} (hn : n.length ≤ 1000000) :
    Calls Tryd.prog 16 #[.slice ao L.length cap, .string ⟨n.toArray⟩] w fun e w' => e = .returned (.tuple #[.string ⟨(getL n L).toArray⟩, .bool (!(allL n L).isEmpty)]) ∧ Below w.heap.size w w' := by
  have := ref13_Get_any ao cap L (Nat.le_trans h.1 (by omega)) h.all ⟨n.toArray⟩ (by rw [ba_len]; exact hn) w hc.fa
  rwa [mk_toList] at this
theorem r_Set {n v : List UInt8} (hn : n.length ≤ 1000000) :
    Calls Tryd.prog 21 #[.slice ao L.length cap, .string ⟨n.toArray⟩, .string ⟨v.toArray⟩] w fun e w' => ∃ sv, e = .returned sv ∧ w'.ownsRow w.heap.size 42 2 sv (setL n v L).length (flds (setL n v L)) ∧ Below w.heap.size w w' :=
  ref13_Set_any ao cap L (Nat.le_trans h.1 (by omega)) h.all n v hn w hc.fa
theorem r_Drop {names : List (List UInt8)} (hN : names.length ≤ 1000000) (hall : ∀ x ∈ names, x.length ≤ 140737488351232) {bo : Option Addr} {bcap : Nat} (hT : Texts w.heap.size w (.slice bo names.length bcap) names) :
    Calls Tryd.prog 23 #[.slice ao L.length cap, .slice bo names.length bcap] w fun e w' => ∃ v, e = .returned v ∧ w'.ownsRow w.heap.size 42 2 v (dropL names L).length (flds (dropL names L)) ∧ Below w.heap.size w w' :=
  ref13_Drop_any ao cap L (Nat.le_trans h.1 (by omega)) h.all bo bcap names hN hall w hc.fa hT.ta
end
theorem r_Same {L M : List Fld} (hL : L.length ≤ 1000000) (hM : M.length ≤ 1000000) {ao : Option Addr} {cap : Nat} {w : World} (hc : Flds w.heap.size w (.slice ao L.length cap) L) {bo : Option Addr} {bcap : Nat} (hb : Flds w.heap.size w (.slice bo M.length bcap) M) :
    Calls Tryd.prog 14 #[.slice ao L.length cap, .slice bo M.length bcap] w fun e w' => e = .returned (.bool (L == M)) ∧ Below w.heap.size w w' :=
  ref13_Same_any ao cap L bo bcap M hL hM w hc.fa hb.fa

set_option maxHeartbeats 8000000 in
set_option maxRecDepth 100000 in
theorem tells_few_a (raw : List UInt8) (aoA : Option Addr) (caA : Nat) (A : List Fld) (aoB : Option Addr) (caB : Nat) (B : List Fld) (n v : List UInt8) (aoN : Option Addr) (caN : Nat) (N : List (List UInt8)) (w : World) (hG : Good w) (hA0 : Hid (Flds w.heap.size w (.slice aoA A.length caA) A)) (hB0 : Hid (Flds w.heap.size w (.slice aoB B.length caB) B)) (hN0 : Hid (Texts w.heap.size w (.slice aoN N.length caN) N))
    (cFA : ∀ w1 : World, Flds w1.heap.size w1 (.slice aoA A.length caA) A → Calls Tryd.prog 11 #[.slice aoA A.length caA] w1 fun e w' => e = .returned (.bool false) ∧ Below w1.heap.size w1 w')
    (cFB : ∀ w1 : World, Flds w1.heap.size w1 (.slice aoB B.length caB) B → Calls Tryd.prog 11 #[.slice aoB B.length caB] w1 fun e w' => e = .returned (.bool true) ∧ Below w1.heap.size w1 w') :
    Calls Tryd.prog 3 #[.string ⟨raw.toArray⟩, .slice aoA A.length caA, .slice aoB B.length caB, .string ⟨n.toArray⟩, .string ⟨v.toArray⟩, .slice aoN N.length caN] w fun e w' => e = .returned (.bool true) ∧ Below w.heap.size w w' := by
  have hk0 := Ok.refl hG
  go_enter Tryd.func3, Tryd.ntmps3
  go_wp2_with fail
  refine (awake13 w hk0.good).mono ?_
  rintro e w1 ⟨rfl, hb1⟩
  have hkc1 := hk0.step hb1
  have hA1 := Lib.hid ((hA0.out.below hb1).mono hb1.size)
  clear hA0
  have hB2 := Lib.hid ((hB0.out.below hb1).mono hb1.size)
  clear hB0
  have hN3 := Lib.hid ((hN0.out.below hb1).mono hb1.size)
  clear hN0
  go_wp2_with fail
  refine (cFA w1 hA1.out).mono ?_
  rintro e w2 ⟨rfl, hb2⟩
  have hkc2 := hkc1.step hb2
  have hA4 := Lib.hid ((hA1.out.below hb2).mono hb2.size)
  clear hA1
  have hB5 := Lib.hid ((hB2.out.below hb2).mono hb2.size)
  clear hB2
  have hN6 := Lib.hid ((hN3.out.below hb2).mono hb2.size)
  clear hN3
  go_wp2_with fail
  refine (cFB w2 hB5.out).mono ?_
  rintro e w3 ⟨rfl, hb3⟩
  have hkc3 := hkc2.step hb3
  have hA7 := Lib.hid ((hA4.out.below hb3).mono hb3.size)
  clear hA4
  have hB8 := Lib.hid ((hB5.out.below hb3).mono hb3.size)
  clear hB5
  have hN9 := Lib.hid ((hN6.out.below hb3).mono hb3.size)
  clear hN6
  go_wp2
  go_ret
  exact ⟨rfl, hkc3.below⟩

set_option maxHeartbeats 8000000 in
set_option maxRecDepth 100000 in
theorem tells_few_b (raw : List UInt8) (aoA : Option Addr) (caA : Nat) (A : List Fld) (aoB : Option Addr) (caB : Nat) (B : List Fld) (n v : List UInt8) (aoN : Option Addr) (caN : Nat) (N : List (List UInt8)) (w : World) (hG : Good w) (hA0 : Hid (Flds w.heap.size w (.slice aoA A.length caA) A)) (hB0 : Hid (Flds w.heap.size w (.slice aoB B.length caB) B)) (hN0 : Hid (Texts w.heap.size w (.slice aoN N.length caN) N))
    (cFA : ∀ w1 : World, Flds w1.heap.size w1 (.slice aoA A.length caA) A → Calls Tryd.prog 11 #[.slice aoA A.length caA] w1 fun e w' => e = .returned (.bool true) ∧ Below w1.heap.size w1 w')
    (cFB : ∀ w1 : World, Flds w1.heap.size w1 (.slice aoB B.length caB) B → Calls Tryd.prog 11 #[.slice aoB B.length caB] w1 fun e w' => e = .returned (.bool false) ∧ Below w1.heap.size w1 w') :
    Calls Tryd.prog 3 #[.string ⟨raw.toArray⟩, .slice aoA A.length caA, .slice aoB B.length caB, .string ⟨n.toArray⟩, .string ⟨v.toArray⟩, .slice aoN N.length caN] w fun e w' => e = .returned (.bool true) ∧ Below w.heap.size w w' := by
  have hk0 := Ok.refl hG
  go_enter Tryd.func3, Tryd.ntmps3
  go_wp2_with fail
  refine (awake13 w hk0.good).mono ?_
  rintro e w1 ⟨rfl, hb1⟩
  have hkc1 := hk0.step hb1
  have hA1 := Lib.hid ((hA0.out.below hb1).mono hb1.size)
  clear hA0
  have hB2 := Lib.hid ((hB0.out.below hb1).mono hb1.size)
  clear hB0
  have hN3 := Lib.hid ((hN0.out.below hb1).mono hb1.size)
  clear hN0
  go_wp2_with fail
  refine (cFA w1 hA1.out).mono ?_
  rintro e w2 ⟨rfl, hb2⟩
  have hkc2 := hkc1.step hb2
  have hA4 := Lib.hid ((hA1.out.below hb2).mono hb2.size)
  clear hA1
  have hB5 := Lib.hid ((hB2.out.below hb2).mono hb2.size)
  clear hB2
  have hN6 := Lib.hid ((hN3.out.below hb2).mono hb2.size)
  clear hN3
  go_wp2_with fail
  refine (cFB w2 hB5.out).mono ?_
  rintro e w3 ⟨rfl, hb3⟩
  have hkc3 := hkc2.step hb3
  have hA7 := Lib.hid ((hA4.out.below hb3).mono hb3.size)
  clear hA4
  have hB8 := Lib.hid ((hB5.out.below hb3).mono hb3.size)
  clear hB5
  have hN9 := Lib.hid ((hN6.out.below hb3).mono hb3.size)
  clear hN6
  go_wp2
  go_ret
  exact ⟨rfl, hkc3.below⟩

set_option maxHeartbeats 8000000 in
set_option maxRecDepth 100000 in
theorem tells_few_c (raw : List UInt8) (aoA : Option Addr) (caA : Nat) (A : List Fld) (aoB : Option Addr) (caB : Nat) (B : List Fld) (n v : List UInt8) (aoN : Option Addr) (caN : Nat) (N : List (List UInt8)) (w : World) (hG : Good w) (hA0 : Hid (Flds w.heap.size w (.slice aoA A.length caA) A)) (hB0 : Hid (Flds w.heap.size w (.slice aoB B.length caB) B)) (hN0 : Hid (Texts w.heap.size w (.slice aoN N.length caN) N))
    (cFA : ∀ w1 : World, Flds w1.heap.size w1 (.slice aoA A.length caA) A → Calls Tryd.prog 11 #[.slice aoA A.length caA] w1 fun e w' => e = .returned (.bool false) ∧ Below w1.heap.size w1 w')
    (cFB : ∀ w1 : World, Flds w1.heap.size w1 (.slice aoB B.length caB) B → Calls Tryd.prog 11 #[.slice aoB B.length caB] w1 fun e w' => e = .returned (.bool false) ∧ Below w1.heap.size w1 w') :
    Calls Tryd.prog 3 #[.string ⟨raw.toArray⟩, .slice aoA A.length caA, .slice aoB B.length caB, .string ⟨n.toArray⟩, .string ⟨v.toArray⟩, .slice aoN N.length caN] w fun e w' => e = .returned (.bool true) ∧ Below w.heap.size w w' := by
  have hk0 := Ok.refl hG
  go_enter Tryd.func3, Tryd.ntmps3
  go_wp2_with fail
  refine (awake13 w hk0.good).mono ?_
  rintro e w1 ⟨rfl, hb1⟩
  have hkc1 := hk0.step hb1
  have hA1 := Lib.hid ((hA0.out.below hb1).mono hb1.size)
  clear hA0
  have hB2 := Lib.hid ((hB0.out.below hb1).mono hb1.size)
  clear hB0
  have hN3 := Lib.hid ((hN0.out.below hb1).mono hb1.size)
  clear hN0
  go_wp2_with fail
  refine (cFA w1 hA1.out).mono ?_
  rintro e w2 ⟨rfl, hb2⟩
  have hkc2 := hkc1.step hb2
  have hA4 := Lib.hid ((hA1.out.below hb2).mono hb2.size)
  clear hA1
  have hB5 := Lib.hid ((hB2.out.below hb2).mono hb2.size)
  clear hB2
  have hN6 := Lib.hid ((hN3.out.below hb2).mono hb2.size)
  clear hN3
  go_wp2_with fail
  refine (cFB w2 hB5.out).mono ?_
  rintro e w3 ⟨rfl, hb3⟩
  have hkc3 := hkc2.step hb3
  have hA7 := Lib.hid ((hA4.out.below hb3).mono hb3.size)
  clear hA4
  have hB8 := Lib.hid ((hB5.out.below hb3).mono hb3.size)
  clear hB5
  have hN9 := Lib.hid ((hN6.out.below hb3).mono hb3.size)
  clear hN6
  go_wp2
  go_ret
  exact ⟨rfl, hkc3.below⟩

set_option maxHeartbeats 8000000 in
set_option maxRecDepth 100000 in
theorem tells_long_raw (raw : List UInt8) (aoA : Option Addr) (caA : Nat) (A : List Fld) (aoB : Option Addr) (caB : Nat) (B : List Fld) (n v : List UInt8) (aoN : Option Addr) (caN : Nat) (N : List (List UInt8)) (w : World) (hG : Good w) (hA0 : Hid (Flds w.heap.size w (.slice aoA A.length caA) A)) (hB0 : Hid (Flds w.heap.size w (.slice aoB B.length caB) B)) (hN0 : Hid (Texts w.heap.size w (.slice aoN N.length caN) N))
    (cFA : ∀ w1 : World, Flds w1.heap.size w1 (.slice aoA A.length caA) A → Calls Tryd.prog 11 #[.slice aoA A.length caA] w1 fun e w' => e = .returned (.bool true) ∧ Below w1.heap.size w1 w')
    (cFB : ∀ w1 : World, Flds w1.heap.size w1 (.slice aoB B.length caB) B → Calls Tryd.prog 11 #[.slice aoB B.length caB] w1 fun e w' => e = .returned (.bool true) ∧ Below w1.heap.size w1 w') (h_raw : 600 < raw.length) :
    Calls Tryd.prog 3 #[.string ⟨raw.toArray⟩, .slice aoA A.length caA, .slice aoB B.length caB, .string ⟨n.toArray⟩, .string ⟨v.toArray⟩, .slice aoN N.length caN] w fun e w' => e = .returned (.bool true) ∧ Below w.heap.size w w' := by
  have d_raw : decide ((600 : Int) < (raw.length : Int)) = true := decide_eq_true (by omega)
  have e_raw : decide (600 < raw.length) = true := decide_eq_true (by omega)
  clear h_raw
  have hk0 := Ok.refl hG
  go_enter Tryd.func3, Tryd.ntmps3
  go_wp2_with fail
  refine (awake13 w hk0.good).mono ?_
  rintro e w1 ⟨rfl, hb1⟩
  have hkc1 := hk0.step hb1
  have hA1 := Lib.hid ((hA0.out.below hb1).mono hb1.size)
  clear hA0
  have hB2 := Lib.hid ((hB0.out.below hb1).mono hb1.size)
  clear hB0
  have hN3 := Lib.hid ((hN0.out.below hb1).mono hb1.size)
  clear hN0
  go_wp2_with fail
  refine (cFA w1 hA1.out).mono ?_
  rintro e w2 ⟨rfl, hb2⟩
  have hkc2 := hkc1.step hb2
  have hA4 := Lib.hid ((hA1.out.below hb2).mono hb2.size)
  clear hA1
  have hB5 := Lib.hid ((hB2.out.below hb2).mono hb2.size)
  clear hB2
  have hN6 := Lib.hid ((hN3.out.below hb2).mono hb2.size)
  clear hN3
  go_wp2_with fail
  refine (cFB w2 hB5.out).mono ?_
  rintro e w3 ⟨rfl, hb3⟩
  have hkc3 := hkc2.step hb3
  have hA7 := Lib.hid ((hA4.out.below hb3).mono hb3.size)
  clear hA4
  have hB8 := Lib.hid ((hB5.out.below hb3).mono hb3.size)
  clear hB5
  have hN9 := Lib.hid ((hN6.out.below hb3).mono hb3.size)
  clear hN6
  go_wp2
  go_ret
  exact ⟨rfl, hkc3.below⟩

set_option maxHeartbeats 8000000 in
set_option maxRecDepth 100000 in
theorem tells_long_n (raw : List UInt8) (aoA : Option Addr) (caA : Nat) (A : List Fld) (aoB : Option Addr) (caB : Nat) (B : List Fld) (n v : List UInt8) (aoN : Option Addr) (caN : Nat) (N : List (List UInt8)) (w : World) (hG : Good w) (hA0 : Hid (Flds w.heap.size w (.slice aoA A.length caA) A)) (hB0 : Hid (Flds w.heap.size w (.slice aoB B.length caB) B)) (hN0 : Hid (Texts w.heap.size w (.slice aoN N.length caN) N))
    (cFA : ∀ w1 : World, Flds w1.heap.size w1 (.slice aoA A.length caA) A → Calls Tryd.prog 11 #[.slice aoA A.length caA] w1 fun e w' => e = .returned (.bool true) ∧ Below w1.heap.size w1 w')
    (cFB : ∀ w1 : World, Flds w1.heap.size w1 (.slice aoB B.length caB) B → Calls Tryd.prog 11 #[.slice aoB B.length caB] w1 fun e w' => e = .returned (.bool true) ∧ Below w1.heap.size w1 w') (h_raw : raw.length ≤ 600) (h_n : 300 < n.length) :
    Calls Tryd.prog 3 #[.string ⟨raw.toArray⟩, .slice aoA A.length caA, .slice aoB B.length caB, .string ⟨n.toArray⟩, .string ⟨v.toArray⟩, .slice aoN N.length caN] w fun e w' => e = .returned (.bool true) ∧ Below w.heap.size w w' := by
  have d_raw : decide ((600 : Int) < (raw.length : Int)) = false := decide_eq_false (by omega)
  have e_raw : decide (600 < raw.length) = false := decide_eq_false (by omega)
  have d_n : decide ((300 : Int) < (n.length : Int)) = true := decide_eq_true (by omega)
  have e_n : decide (300 < n.length) = true := decide_eq_true (by omega)
  clear h_raw
  clear h_n
  have hk0 := Ok.refl hG
  go_enter Tryd.func3, Tryd.ntmps3
  go_wp2_with fail
  refine (awake13 w hk0.good).mono ?_
  rintro e w1 ⟨rfl, hb1⟩
  have hkc1 := hk0.step hb1
  have hA1 := Lib.hid ((hA0.out.below hb1).mono hb1.size)
  clear hA0
  have hB2 := Lib.hid ((hB0.out.below hb1).mono hb1.size)
  clear hB0
  have hN3 := Lib.hid ((hN0.out.below hb1).mono hb1.size)
  clear hN0
  go_wp2_with fail
  refine (cFA w1 hA1.out).mono ?_
  rintro e w2 ⟨rfl, hb2⟩
  have hkc2 := hkc1.step hb2
  have hA4 := Lib.hid ((hA1.out.below hb2).mono hb2.size)
  clear hA1
  have hB5 := Lib.hid ((hB2.out.below hb2).mono hb2.size)
  clear hB2
  have hN6 := Lib.hid ((hN3.out.below hb2).mono hb2.size)
  clear hN3
  go_wp2_with fail
  refine (cFB w2 hB5.out).mono ?_
  rintro e w3 ⟨rfl, hb3⟩
  have hkc3 := hkc2.step hb3
  have hA7 := Lib.hid ((hA4.out.below hb3).mono hb3.size)
  clear hA4
  have hB8 := Lib.hid ((hB5.out.below hb3).mono hb3.size)
  clear hB5
  have hN9 := Lib.hid ((hN6.out.below hb3).mono hb3.size)
  clear hN6
  go_wp2
  go_ret
  exact ⟨rfl, hkc3.below⟩

set_option maxHeartbeats 8000000 in
set_option maxRecDepth 100000 in
theorem tells_long_v (raw : List UInt8) (aoA : Option Addr) (caA : Nat) (A : List Fld) (aoB : Option Addr) (caB : Nat) (B : List Fld) (n v : List UInt8) (aoN : Option Addr) (caN : Nat) (N : List (List UInt8)) (w : World) (hG : Good w) (hA0 : Hid (Flds w.heap.size w (.slice aoA A.length caA) A)) (hB0 : Hid (Flds w.heap.size w (.slice aoB B.length caB) B)) (hN0 : Hid (Texts w.heap.size w (.slice aoN N.length caN) N))
    (cFA : ∀ w1 : World, Flds w1.heap.size w1 (.slice aoA A.length caA) A → Calls Tryd.prog 11 #[.slice aoA A.length caA] w1 fun e w' => e = .returned (.bool true) ∧ Below w1.heap.size w1 w')
    (cFB : ∀ w1 : World, Flds w1.heap.size w1 (.slice aoB B.length caB) B → Calls Tryd.prog 11 #[.slice aoB B.length caB] w1 fun e w' => e = .returned (.bool true) ∧ Below w1.heap.size w1 w') (h_raw : raw.length ≤ 600) (h_n : n.length ≤ 300) (h_v : 300 < v.length) :
    Calls Tryd.prog 3 #[.string ⟨raw.toArray⟩, .slice aoA A.length caA, .slice aoB B.length caB, .string ⟨n.toArray⟩, .string ⟨v.toArray⟩, .slice aoN N.length caN] w fun e w' => e = .returned (.bool true) ∧ Below w.heap.size w w' := by
  have d_raw : decide ((600 : Int) < (raw.length : Int)) = false := decide_eq_false (by omega)
  have e_raw : decide (600 < raw.length) = false := decide_eq_false (by omega)
  have d_n : decide ((300 : Int) < (n.length : Int)) = false := decide_eq_false (by omega)
  have e_n : decide (300 < n.length) = false := decide_eq_false (by omega)
  have d_v : decide ((300 : Int) < (v.length : Int)) = true := decide_eq_true (by omega)
  have e_v : decide (300 < v.length) = true := decide_eq_true (by omega)
  clear h_raw
  clear h_n
  clear h_v
  have hk0 := Ok.refl hG
  go_enter Tryd.func3, Tryd.ntmps3
  go_wp2_with fail
  refine (awake13 w hk0.good).mono ?_
  rintro e w1 ⟨rfl, hb1⟩
  have hkc1 := hk0.step hb1
  have hA1 := Lib.hid ((hA0.out.below hb1).mono hb1.size)
  clear hA0
  have hB2 := Lib.hid ((hB0.out.below hb1).mono hb1.size)
  clear hB0
  have hN3 := Lib.hid ((hN0.out.below hb1).mono hb1.size)
  clear hN0
  go_wp2_with fail
  refine (cFA w1 hA1.out).mono ?_
  rintro e w2 ⟨rfl, hb2⟩
  have hkc2 := hkc1.step hb2
  have hA4 := Lib.hid ((hA1.out.below hb2).mono hb2.size)
  clear hA1
  have hB5 := Lib.hid ((hB2.out.below hb2).mono hb2.size)
  clear hB2
  have hN6 := Lib.hid ((hN3.out.below hb2).mono hb2.size)
  clear hN3
  go_wp2_with fail
  refine (cFB w2 hB5.out).mono ?_
  rintro e w3 ⟨rfl, hb3⟩
  have hkc3 := hkc2.step hb3
  have hA7 := Lib.hid ((hA4.out.below hb3).mono hb3.size)
  clear hA4
  have hB8 := Lib.hid ((hB5.out.below hb3).mono hb3.size)
  clear hB5
  have hN9 := Lib.hid ((hN6.out.below hb3).mono hb3.size)
  clear hN6
  go_wp2
  go_ret
  exact ⟨rfl, hkc3.below⟩

set_option maxHeartbeats 8000000 in
set_option maxRecDepth 100000 in
theorem tells_long_N (raw : List UInt8) (aoA : Option Addr) (caA : Nat) (A : List Fld) (aoB : Option Addr) (caB : Nat) (B : List Fld) (n v : List UInt8) (aoN : Option Addr) (caN : Nat) (N : List (List UInt8)) (w : World) (hG : Good w) (hA0 : Hid (Flds w.heap.size w (.slice aoA A.length caA) A)) (hB0 : Hid (Flds w.heap.size w (.slice aoB B.length caB) B)) (hN0 : Hid (Texts w.heap.size w (.slice aoN N.length caN) N))
    (cFA : ∀ w1 : World, Flds w1.heap.size w1 (.slice aoA A.length caA) A → Calls Tryd.prog 11 #[.slice aoA A.length caA] w1 fun e w' => e = .returned (.bool true) ∧ Below w1.heap.size w1 w')
    (cFB : ∀ w1 : World, Flds w1.heap.size w1 (.slice aoB B.length caB) B → Calls Tryd.prog 11 #[.slice aoB B.length caB] w1 fun e w' => e = .returned (.bool true) ∧ Below w1.heap.size w1 w') (h_raw : raw.length ≤ 600) (h_n : n.length ≤ 300) (h_v : v.length ≤ 300) (h_N : 10 < N.length) :
    Calls Tryd.prog 3 #[.string ⟨raw.toArray⟩, .slice aoA A.length caA, .slice aoB B.length caB, .string ⟨n.toArray⟩, .string ⟨v.toArray⟩, .slice aoN N.length caN] w fun e w' => e = .returned (.bool true) ∧ Below w.heap.size w w' := by
  have d_raw : decide ((600 : Int) < (raw.length : Int)) = false := decide_eq_false (by omega)
  have e_raw : decide (600 < raw.length) = false := decide_eq_false (by omega)
  have d_n : decide ((300 : Int) < (n.length : Int)) = false := decide_eq_false (by omega)
  have e_n : decide (300 < n.length) = false := decide_eq_false (by omega)
  have d_v : decide ((300 : Int) < (v.length : Int)) = false := decide_eq_false (by omega)
  have e_v : decide (300 < v.length) = false := decide_eq_false (by omega)
  have d_N : decide ((10 : Int) < (N.length : Int)) = true := decide_eq_true (by omega)
  have e_N : decide (10 < N.length) = true := decide_eq_true (by omega)
  clear h_raw
  clear h_n
  clear h_v
  clear h_N
  have hk0 := Ok.refl hG
  go_enter Tryd.func3, Tryd.ntmps3
  go_wp2_with fail
  refine (awake13 w hk0.good).mono ?_
  rintro e w1 ⟨rfl, hb1⟩
  have hkc1 := hk0.step hb1
  have hA1 := Lib.hid ((hA0.out.below hb1).mono hb1.size)
  clear hA0
  have hB2 := Lib.hid ((hB0.out.below hb1).mono hb1.size)
  clear hB0
  have hN3 := Lib.hid ((hN0.out.below hb1).mono hb1.size)
  clear hN0
  go_wp2_with fail
  refine (cFA w1 hA1.out).mono ?_
  rintro e w2 ⟨rfl, hb2⟩
  have hkc2 := hkc1.step hb2
  have hA4 := Lib.hid ((hA1.out.below hb2).mono hb2.size)
  clear hA1
  have hB5 := Lib.hid ((hB2.out.below hb2).mono hb2.size)
  clear hB2
  have hN6 := Lib.hid ((hN3.out.below hb2).mono hb2.size)
  clear hN3
  go_wp2_with fail
  refine (cFB w2 hB5.out).mono ?_
  rintro e w3 ⟨rfl, hb3⟩
  have hkc3 := hkc2.step hb3
  have hA7 := Lib.hid ((hA4.out.below hb3).mono hb3.size)
  clear hA4
  have hB8 := Lib.hid ((hB5.out.below hb3).mono hb3.size)
  clear hB5
  have hN9 := Lib.hid ((hN6.out.below hb3).mono hb3.size)
  clear hN6
  go_wp2
  go_ret
  exact ⟨rfl, hkc3.below⟩

set_option maxHeartbeats 8000000 in
set_option maxRecDepth 100000 in
theorem tells_main (raw : List UInt8) (aoA : Option Addr) (caA : Nat) (A : List Fld) (aoB : Option Addr) (caB : Nat) (B : List Fld) (n v : List UInt8) (aoN : Option Addr) (caN : Nat) (N : List (List UInt8)) (w : World) (hG : Good w) (hA0 : Hid (Flds w.heap.size w (.slice aoA A.length caA) A)) (hB0 : Hid (Flds w.heap.size w (.slice aoB B.length caB) B)) (hN0 : Hid (Texts w.heap.size w (.slice aoN N.length caN) N))
    (cFA : ∀ w1 : World, Flds w1.heap.size w1 (.slice aoA A.length caA) A → Calls Tryd.prog 11 #[.slice aoA A.length caA] w1 fun e w' => e = .returned (.bool true) ∧ Below w1.heap.size w1 w')
    (cFB : ∀ w1 : World, Flds w1.heap.size w1 (.slice aoB B.length caB) B → Calls Tryd.prog 11 #[.slice aoB B.length caB] w1 fun e w' => e = .returned (.bool true) ∧ Below w1.heap.size w1 w') (sA : SmF 60 A) (sB : SmF 60 B) (h_raw : raw.length ≤ 600) (h_n : n.length ≤ 300) (h_v : v.length ≤ 300) (h_N : N.length ≤ 10) (hNs : ∀ x ∈ N, x.length ≤ 140737488351232) :
    Calls Tryd.prog 3 #[.string ⟨raw.toArray⟩, .slice aoA A.length caA, .slice aoB B.length caB, .string ⟨n.toArray⟩, .string ⟨v.toArray⟩, .slice aoN N.length caN] w fun e w' => e = .returned (.bool true) ∧ Below w.heap.size w w' := by
  have cP := fun w1 (hG : Good w1) => head_Parse_any raw (by omega) w1 hG
  have cQ := fun w1 => ref13_Parse ⟨raw.toArray⟩ (by rw [ba_len]; omega) w1
  rw [mk_toList] at cQ
  have hpl := parse_len raw
  have cG := fun w1 hA => c_Get (w := w1) sA (by decide) (ao := aoA) (cap := caA) hA (n := n) (by omega)
  have cG' := fun w1 hA => r_Get (w := w1) sA (by decide) (ao := aoA) (cap := caA) hA (n := n) (by omega)
  have cAll := fun w1 hA => c_All (w := w1) sA (by decide) (ao := aoA) (cap := caA) hA (n := n) (by omega)
  have cAll' := fun w1 hA => r_All (w := w1) sA (by decide) (ao := aoA) (cap := caA) hA (n := n) (by omega)
  have cSet := fun w1 hA => c_Set (w := w1) sA (by decide) (ao := aoA) (cap := caA) hA (n := n) (v := v) (by omega)
  have cSet' := fun w1 hA => r_Set (w := w1) sA (by decide) (ao := aoA) (cap := caA) hA (n := n) (v := v) (by omega)
  have cD := fun w1 hA hN => c_Drop (w := w1) sA (by decide) (ao := aoA) (cap := caA) hA (names := N) (by omega) hNs (bo := aoN) (bcap := caN) hN
  have cD' := fun w1 hA hN => r_Drop (w := w1) sA (by decide) (ao := aoA) (cap := caA) hA (names := N) (by omega) hNs (bo := aoN) (bcap := caN) hN
  have lA := sA.1
  have lB := sB.1
  have lAll := allL_few sA n
  have lSet := (setL_sm sA h_n h_v).1
  have lD := (dropL_sm sA N).1
  have cAB := fun w1 hA hB => r_Same (w := w1) (L := A) (M := B) (by omega) (by omega) (ao := aoA) (cap := caA) hA (bo := aoB) (bcap := caB) hB
  have cAB' := fun w1 hA hB => c_Same (w := w1) sA (by decide) (ao := aoA) (cap := caA) hA sB (by decide) (bo := aoB) (bcap := caB) hB
  have cN := fun w1 => c_Name n w1
  have cV := fun w1 => c_Value v (by omega) w1
  have cN' := fun w1 => ref13_Name ⟨n.toArray⟩ (by rw [ba_len]; omega) w1
  have cV' := fun w1 => ref13_Value ⟨v.toArray⟩ (by rw [ba_len]; omega) w1
  rw [mk_toList] at cN' cV'
  generalize parseHd raw = pr at *
  obtain ⟨PL, pb⟩ := pr
  dsimp only at cP cQ hpl
  generalize allL n A = AL at *
  generalize getL n A = GL at *
  generalize setL n v A = SL at *
  generalize dropL N A = DL at *
  generalize (A == B) = ab at *
  generalize nameB n = nb at *
  generalize valueB v = vb at *
  have cXY := fun ao ca bo cb w1 hX hY => r_Same (w := w1) (L := PL) (M := PL) (by omega) (by omega) (ao := ao) (cap := ca) hX (bo := bo) (bcap := cb) hY
  have cR := fun ao ca bo cb w1 hX hY => ref08_Same (.slice ao AL.length ca) (.slice bo AL.length cb) AL AL (by omega) (by omega) w1 hX hY
  have cSS := fun ao ca bo cb w1 hX hY => r_Same (w := w1) (L := SL) (M := SL) (by omega) (by omega) (ao := ao) (cap := ca) hX (bo := bo) (bcap := cb) hY
  have cDD := fun ao ca bo cb w1 hX hY => r_Same (w := w1) (L := DL) (M := DL) (by omega) (by omega) (ao := ao) (cap := ca) hX (bo := bo) (bcap := cb) hY
  rw [beq_self_eq_true] at cXY cR cSS cDD
  have d_raw : decide ((600 : Int) < (raw.length : Int)) = false := decide_eq_false (by omega)
  have e_raw : decide (600 < raw.length) = false := decide_eq_false (by omega)
  have d_n : decide ((300 : Int) < (n.length : Int)) = false := decide_eq_false (by omega)
  have e_n : decide (300 < n.length) = false := decide_eq_false (by omega)
  have d_v : decide ((300 : Int) < (v.length : Int)) = false := decide_eq_false (by omega)
  have e_v : decide (300 < v.length) = false := decide_eq_false (by omega)
  have d_N : decide ((10 : Int) < (N.length : Int)) = false := decide_eq_false (by omega)
  have e_N : decide (10 < N.length) = false := decide_eq_false (by omega)
  clear h_raw h_n h_v h_N hpl lA lB lAll lSet lD sA sB hNs
  have hk0 := Ok.refl hG
  go_enter Tryd.func3, Tryd.ntmps3
  go_wp2_with fail
  refine (awake13 w hk0.good).mono ?_
  rintro e w1 ⟨rfl, hb1⟩
  have hkc1 := hk0.step hb1
  have hA1 := Lib.hid ((hA0.out.below hb1).mono hb1.size)
  clear hA0
  have hB2 := Lib.hid ((hB0.out.below hb1).mono hb1.size)
  clear hB0
  have hN3 := Lib.hid ((hN0.out.below hb1).mono hb1.size)
  clear hN0
  go_wp2_with fail
  refine (cFA w1 hA1.out).mono ?_
  rintro e w2 ⟨rfl, hb2⟩
  have hkc2 := hkc1.step hb2
  have hA4 := Lib.hid ((hA1.out.below hb2).mono hb2.size)
  clear hA1
  have hB5 := Lib.hid ((hB2.out.below hb2).mono hb2.size)
  clear hB2
  have hN6 := Lib.hid ((hN3.out.below hb2).mono hb2.size)
  clear hN3
  go_wp2_with fail
  refine (cFB w2 hB5.out).mono ?_
  rintro e w3 ⟨rfl, hb3⟩
  have hkc3 := hkc2.step hb3
  have hA7 := Lib.hid ((hA4.out.below hb3).mono hb3.size)
  clear hA4
  have hB8 := Lib.hid ((hB5.out.below hb3).mono hb3.size)
  clear hB5
  have hN9 := Lib.hid ((hN6.out.below hb3).mono hb3.size)
  clear hN6
  go_wp2_with fail
  refine (cP w3 hkc3.good).mono ?_
  rintro e w4 ⟨v4, rfl, ho4, hb4⟩
  have hkc4 := hkc3.step hb4
  have hA10 := Lib.hid ((hA7.out.below hb4).mono hb4.size)
  clear hA7
  have hB11 := Lib.hid ((hB8.out.below hb4).mono hb4.size)
  clear hB8
  have hN12 := Lib.hid ((hN9.out.below hb4).mono hb4.size)
  clear hN9
  have hXn := flds_here ho4
  obtain ⟨aoX, caX, rfl⟩ := hXn.shape
  have hX0 := Lib.hid hXn
  clear hXn ho4
  go_wp2_with fail
  refine (cQ w4).mono ?_
  rintro e w5 ⟨v5, rfl, ho5, hb5⟩
  have hkc5 := hkc4.step hb5
  have hA13 := Lib.hid ((hA10.out.below hb5).mono hb5.size)
  clear hA10
  have hB14 := Lib.hid ((hB11.out.below hb5).mono hb5.size)
  clear hB11
  have hN15 := Lib.hid ((hN12.out.below hb5).mono hb5.size)
  clear hN12
  have hX16 := Lib.hid ((hX0.out.below hb5).mono hb5.size)
  clear hX0
  have hYn := flds_here ho5
  obtain ⟨aoY, caY, rfl⟩ := hYn.shape
  have hY0 := Lib.hid hYn
  clear hYn ho5
  go_wp2_with fail
  refine (cXY _ _ _ _ w5 hX16.out hY0.out).mono ?_
  rintro e w6 ⟨rfl, hb6⟩
  have hkc6 := hkc5.step hb6
  have hA17 := Lib.hid ((hA13.out.below hb6).mono hb6.size)
  clear hA13
  have hB18 := Lib.hid ((hB14.out.below hb6).mono hb6.size)
  clear hB14
  have hN19 := Lib.hid ((hN15.out.below hb6).mono hb6.size)
  clear hN15
  have hX20 := Lib.hid ((hX16.out.below hb6).mono hb6.size)
  clear hX16
  have hY21 := Lib.hid ((hY0.out.below hb6).mono hb6.size)
  clear hY0
  clear hX20
  clear hY21
  go_wp2_with fail
  refine (cG w6 hA17.out).mono ?_
  rintro e w7 ⟨rfl, hb7⟩
  have hkc7 := hkc6.step hb7
  have hA22 := Lib.hid ((hA17.out.below hb7).mono hb7.size)
  clear hA17
  have hB23 := Lib.hid ((hB18.out.below hb7).mono hb7.size)
  clear hB18
  have hN24 := Lib.hid ((hN19.out.below hb7).mono hb7.size)
  clear hN19
  go_wp2_with fail
  refine (cG' w7 hA22.out).mono ?_
  rintro e w8 ⟨rfl, hb8⟩
  have hkc8 := hkc7.step hb8
  have hA25 := Lib.hid ((hA22.out.below hb8).mono hb8.size)
  clear hA22
  have hB26 := Lib.hid ((hB23.out.below hb8).mono hb8.size)
  clear hB23
  have hN27 := Lib.hid ((hN24.out.below hb8).mono hb8.size)
  clear hN24
  go_wp2_with fail
  refine (cAll w8 hA25.out).mono ?_
  rintro e w9 ⟨v9, rfl, ho9, hb9⟩
  have hkc9 := hkc8.step hb9
  have hA28 := Lib.hid ((hA25.out.below hb9).mono hb9.size)
  clear hA25
  have hB29 := Lib.hid ((hB26.out.below hb9).mono hb9.size)
  clear hB26
  have hN30 := Lib.hid ((hN27.out.below hb9).mono hb9.size)
  clear hN27
  have hXn := (texts_own ho9 (Nat.le_refl _)).1
  obtain ⟨aoX, caX, rfl⟩ := hXn.shape
  have hX0 := Lib.hid hXn
  clear hXn ho9
  go_wp2_with fail
  refine (cAll' w9 hA28.out).mono ?_
  rintro e w10 ⟨v10, rfl, ho10, hb10⟩
  have hkc10 := hkc9.step hb10
  have hA31 := Lib.hid ((hA28.out.below hb10).mono hb10.size)
  clear hA28
  have hB32 := Lib.hid ((hB29.out.below hb10).mono hb10.size)
  clear hB29
  have hN33 := Lib.hid ((hN30.out.below hb10).mono hb10.size)
  clear hN30
  have hX34 := Lib.hid ((hX0.out.below hb10).mono hb10.size)
  clear hX0
  have hYn := (texts_own ho10 (Nat.le_refl _)).1
  obtain ⟨aoY, caY, rfl⟩ := hYn.shape
  have hY0 := Lib.hid hYn
  clear hYn ho10
  go_wp2_with fail
  refine (cR _ _ _ _ w10 hX34.out hY0.out).mono ?_
  rintro e w11 ⟨rfl, hb11⟩
  have hkc11 := hkc10.step hb11
  have hA35 := Lib.hid ((hA31.out.below hb11).mono hb11.size)
  clear hA31
  have hB36 := Lib.hid ((hB32.out.below hb11).mono hb11.size)
  clear hB32
  have hN37 := Lib.hid ((hN33.out.below hb11).mono hb11.size)
  clear hN33
  have hX38 := Lib.hid ((hX34.out.below hb11).mono hb11.size)
  clear hX34
  have hY39 := Lib.hid ((hY0.out.below hb11).mono hb11.size)
  clear hY0
  clear hX38
  clear hY39
  go_wp2_with fail
  refine (cSet w11 hA35.out).mono ?_
  rintro e w12 ⟨v12, rfl, ho12, hb12⟩
  have hkc12 := hkc11.step hb12
  have hA40 := Lib.hid ((hA35.out.below hb12).mono hb12.size)
  clear hA35
  have hB41 := Lib.hid ((hB36.out.below hb12).mono hb12.size)
  clear hB36
  have hN42 := Lib.hid ((hN37.out.below hb12).mono hb12.size)
  clear hN37
  have hXn := flds_here ho12
  obtain ⟨aoX, caX, rfl⟩ := hXn.shape
  have hX0 := Lib.hid hXn
  clear hXn ho12
  go_wp2_with fail
  refine (cSet' w12 hA40.out).mono ?_
  rintro e w13 ⟨v13, rfl, ho13, hb13⟩
  have hkc13 := hkc12.step hb13
  have hA43 := Lib.hid ((hA40.out.below hb13).mono hb13.size)
  clear hA40
  have hB44 := Lib.hid ((hB41.out.below hb13).mono hb13.size)
  clear hB41
  have hN45 := Lib.hid ((hN42.out.below hb13).mono hb13.size)
  clear hN42
  have hX46 := Lib.hid ((hX0.out.below hb13).mono hb13.size)
  clear hX0
  have hYn := flds_here ho13
  obtain ⟨aoY, caY, rfl⟩ := hYn.shape
  have hY0 := Lib.hid hYn
  clear hYn ho13
  go_wp2_with fail
  refine (cSS _ _ _ _ w13 hX46.out hY0.out).mono ?_
  rintro e w14 ⟨rfl, hb14⟩
  have hkc14 := hkc13.step hb14
  have hA47 := Lib.hid ((hA43.out.below hb14).mono hb14.size)
  clear hA43
  have hB48 := Lib.hid ((hB44.out.below hb14).mono hb14.size)
  clear hB44
  have hN49 := Lib.hid ((hN45.out.below hb14).mono hb14.size)
  clear hN45
  have hX50 := Lib.hid ((hX46.out.below hb14).mono hb14.size)
  clear hX46
  have hY51 := Lib.hid ((hY0.out.below hb14).mono hb14.size)
  clear hY0
  clear hX50
  clear hY51
  go_wp2_with fail
  refine (cD w14 hA47.out hN49.out).mono ?_
  rintro e w15 ⟨v15, rfl, ho15, hb15⟩
  have hkc15 := hkc14.step hb15
  have hA52 := Lib.hid ((hA47.out.below hb15).mono hb15.size)
  clear hA47
  have hB53 := Lib.hid ((hB48.out.below hb15).mono hb15.size)
  clear hB48
  have hN54 := Lib.hid ((hN49.out.below hb15).mono hb15.size)
  clear hN49
  have hXn := flds_here ho15
  obtain ⟨aoX, caX, rfl⟩ := hXn.shape
  have hX0 := Lib.hid hXn
  clear hXn ho15
  go_wp2_with fail
  refine (cD' w15 hA52.out hN54.out).mono ?_
  rintro e w16 ⟨v16, rfl, ho16, hb16⟩
  have hkc16 := hkc15.step hb16
  have hA55 := Lib.hid ((hA52.out.below hb16).mono hb16.size)
  clear hA52
  have hB56 := Lib.hid ((hB53.out.below hb16).mono hb16.size)
  clear hB53
  have hN57 := Lib.hid ((hN54.out.below hb16).mono hb16.size)
  clear hN54
  have hX58 := Lib.hid ((hX0.out.below hb16).mono hb16.size)
  clear hX0
  have hYn := flds_here ho16
  obtain ⟨aoY, caY, rfl⟩ := hYn.shape
  have hY0 := Lib.hid hYn
  clear hYn ho16
  go_wp2_with fail
  refine (cDD _ _ _ _ w16 hX58.out hY0.out).mono ?_
  rintro e w17 ⟨rfl, hb17⟩
  have hkc17 := hkc16.step hb17
  have hA59 := Lib.hid ((hA55.out.below hb17).mono hb17.size)
  clear hA55
  have hB60 := Lib.hid ((hB56.out.below hb17).mono hb17.size)
  clear hB56
  have hN61 := Lib.hid ((hN57.out.below hb17).mono hb17.size)
  clear hN57
  have hX62 := Lib.hid ((hX58.out.below hb17).mono hb17.size)
  clear hX58
  have hY63 := Lib.hid ((hY0.out.below hb17).mono hb17.size)
  clear hY0
  clear hX62
  clear hY63
  go_wp2_with fail
  refine (cAB w17 hA59.out hB60.out).mono ?_
  rintro e w18 ⟨rfl, hb18⟩
  have hkc18 := hkc17.step hb18
  have hA64 := Lib.hid ((hA59.out.below hb18).mono hb18.size)
  clear hA59
  have hB65 := Lib.hid ((hB60.out.below hb18).mono hb18.size)
  clear hB60
  have hN66 := Lib.hid ((hN61.out.below hb18).mono hb18.size)
  clear hN61
  go_wp2_with fail
  refine (cN' w18).mono ?_
  rintro e w19 ⟨rfl, hb19⟩
  have hkc19 := hkc18.step hb19
  have hA67 := Lib.hid ((hA64.out.below hb19).mono hb19.size)
  clear hA64
  have hB68 := Lib.hid ((hB65.out.below hb19).mono hb19.size)
  clear hB65
  have hN69 := Lib.hid ((hN66.out.below hb19).mono hb19.size)
  clear hN66
  go_wp2_with fail
  refine (cV' w19).mono ?_
  rintro e w20 ⟨rfl, hb20⟩
  have hkc20 := hkc19.step hb20
  have hA70 := Lib.hid ((hA67.out.below hb20).mono hb20.size)
  clear hA67
  have hB71 := Lib.hid ((hB68.out.below hb20).mono hb20.size)
  clear hB68
  have hN72 := Lib.hid ((hN69.out.below hb20).mono hb20.size)
  clear hN69
  go_wp2_with fail
  refine (cAB' w20 hA70.out hB71.out).mono ?_
  rintro e w21 ⟨rfl, hb21⟩
  have hkc21 := hkc20.step hb21
  have hA73 := Lib.hid ((hA70.out.below hb21).mono hb21.size)
  clear hA70
  have hB74 := Lib.hid ((hB71.out.below hb21).mono hb21.size)
  clear hB71
  have hN75 := Lib.hid ((hN72.out.below hb21).mono hb21.size)
  clear hN72
  go_wp2_with fail
  refine (cN w21).mono ?_
  rintro e w22 ⟨rfl, hb22⟩
  have hkc22 := hkc21.step hb22
  have hA76 := Lib.hid ((hA73.out.below hb22).mono hb22.size)
  clear hA73
  have hB77 := Lib.hid ((hB74.out.below hb22).mono hb22.size)
  clear hB74
  have hN78 := Lib.hid ((hN75.out.below hb22).mono hb22.size)
  clear hN75
  go_wp2_with fail
  refine (cV w22).mono ?_
  rintro e w23 ⟨rfl, hb23⟩
  have hkc23 := hkc22.step hb23
  have hA79 := Lib.hid ((hA76.out.below hb23).mono hb23.size)
  clear hA76
  have hB80 := Lib.hid ((hB77.out.below hb23).mono hb23.size)
  clear hB77
  have hN81 := Lib.hid ((hN78.out.below hb23).mono hb23.size)
  clear hN78
  go_wp2
  go_ret
  exact ⟨rfl, hkc23.below⟩

theorem law_HeadTells (a0 : ByteArray) (va : Value) (A : List Fld) (vb : Value) (B : List Fld) (a3 a4 : ByteArray) (vn : Value) (N : List (List UInt8)) (_b0 : a0.size ≤ 140737488351232) (_b3 : a3.size ≤ 140737488351232) (_b4 : a4.size ≤ 140737488351232) (w : World) (hG : Good w)
    (hA : Flds w.heap.size w va A) (_oA : va.oneCell' = true) (mA : A.length ≤ maxLen) (nA : ∀ f ∈ A, f.1.length ≤ maxLen ∧ f.2.length ≤ maxLen)
    (hB : Flds w.heap.size w vb B) (_oB : vb.oneCell' = true) (mB : B.length ≤ maxLen) (nB : ∀ f ∈ B, f.1.length ≤ maxLen ∧ f.2.length ≤ maxLen)
    (hN : Texts w.heap.size w vn N) (_oN : vn.oneCell' = true) (_mN : N.length ≤ maxLen) (nN : ∀ x ∈ N, x.length ≤ 140737488351232) :
    Calls Tryd.prog 3 #[.string a0, va, vb, .string a3, .string a4, vn] w fun e w' => e = .returned (.bool true) ∧ Below w.heap.size w w' := by
  obtain ⟨raw, rfl⟩ : ∃ l : List UInt8, a0 = ⟨l.toArray⟩ := ⟨a0.data.toList, rfl⟩
  obtain ⟨n, rfl⟩ : ∃ l : List UInt8, a3 = ⟨l.toArray⟩ := ⟨a3.data.toList, rfl⟩
  obtain ⟨v, rfl⟩ : ∃ l : List UInt8, a4 = ⟨l.toArray⟩ := ⟨a4.data.toList, rfl⟩
  obtain ⟨aoA, caA, rfl⟩ := hA.shape
  obtain ⟨aoB, caB, rfl⟩ := hB.shape
  obtain ⟨aoN, caN, rfl⟩ := hN.shape
  have cFA := fun (w1 : World) h => Few13_any (.slice aoA A.length caA) A mA nA w1 h
  have cFB := fun (w1 : World) h => Few13_any (.slice aoB B.length caB) B mB nB w1 h
  cases hFA : few13 A <;> cases hFB : few13 B <;> (rw [hFA] at cFA; rw [hFB] at cFB)
  · exact tells_few_c raw aoA caA A aoB caB B n v aoN caN N w hG (Lib.hid hA) (Lib.hid hB) (Lib.hid hN) cFA cFB
  · exact tells_few_a raw aoA caA A aoB caB B n v aoN caN N w hG (Lib.hid hA) (Lib.hid hB) (Lib.hid hN) cFA cFB
  · exact tells_few_b raw aoA caA A aoB caB B n v aoN caN N w hG (Lib.hid hA) (Lib.hid hB) (Lib.hid hN) cFA cFB
  · rcases Nat.lt_or_ge 600 raw.length with h_raw | h_raw
    · exact tells_long_raw raw aoA caA A aoB caB B n v aoN caN N w hG (Lib.hid hA) (Lib.hid hB) (Lib.hid hN) cFA cFB h_raw
    · rcases Nat.lt_or_ge 300 n.length with h_n | h_n
      · exact tells_long_n raw aoA caA A aoB caB B n v aoN caN N w hG (Lib.hid hA) (Lib.hid hB) (Lib.hid hN) cFA cFB h_raw h_n
      · rcases Nat.lt_or_ge 300 v.length with h_v | h_v
        · exact tells_long_v raw aoA caA A aoB caB B n v aoN caN N w hG (Lib.hid hA) (Lib.hid hB) (Lib.hid hN) cFA cFB h_raw h_n h_v
        · rcases Nat.lt_or_ge 10 N.length with h_N | h_N
          · exact tells_long_N raw aoA caA A aoB caB B n v aoN caN N w hG (Lib.hid hA) (Lib.hid hB) (Lib.hid hN) cFA cFB h_raw h_n h_v h_N
          · exact tells_main raw aoA caA A aoB caB B n v aoN caN N w hG (Lib.hid hA) (Lib.hid hB) (Lib.hid hN) cFA cFB (few_sm5 hFA) (few_sm5 hFB) h_raw h_n h_v h_N nN

end Go.Proofs.YtgbjofahmkeapaaDoor
