/- Head: what the laws lean on, and their example. -/
import Derived.Test.YtgbjofahmkeapaaDoorHeadT
import Derived.Test.YtgbjofahmkeapaaDoorHead3r
import Derived.Test.YtgbjofahmkeapaaDoorHead5
import Derived.Test.YtgbjofahmkeapaaDoorHead5c
import Derived.Test.YtgbjofahmkeapaaDoorHead6
import Derived.Test.YtgbjofahmkeapaaDoorRowH
import Derived.OpenShut
namespace Go.Proofs.YtgbjofahmkeapaaDoor
open Go.RowKit Go.Proofs.YtgbjofahmkeapaaDoorW.PrintWords
set_option linter.unusedVariables false
set_option linter.unnecessarySimpa false

theorem Flds.fa {n₀ : Nat} {w : World} {ao : Option Addr} {cap : Nat} {l : List Fld} (h : Flds n₀ w (.slice ao l.length cap) l) : FldsAt n₀ w ao l := by
  obtain ⟨ao', cap', e, h⟩ := h.at_
  obtain ⟨rfl, _, rfl⟩ := Value.slice.inj e
  exact h
theorem Texts.ta {n₀ : Nat} {w : World} {ao : Option Addr} {cap : Nat} {l : List (List UInt8)} (h : Texts n₀ w (.slice ao l.length cap) l) : TextsAt n₀ w ao l := by
  obtain ⟨ao', cap', e, h⟩ := h.at_
  obtain ⟨rfl, _, rfl⟩ := Value.slice.inj e
  exact h
theorem Texts.shape {n₀ : Nat} {w : World} {sv : Value} {l : List (List UInt8)} (h : Texts n₀ w sv l) : ∃ ao cap, sv = .slice ao l.length cap := by
  obtain ⟨ao, cap, e, _⟩ := h.at_
  exact ⟨ao, cap, e⟩
theorem texts_new (w : World) (l : List (List UInt8)) {cap : Nat} : Texts (w.alloc (.cells (strs l).toArray 9)).heap.size (w.alloc (.cells (strs l).toArray 9)) (.slice (some ⟨w.heap.size, 0, none⟩) l.length cap) l :=
  texts_row (heap_alloc_new w (.cells (strs l).toArray 9)) (by rw [World.size_alloc]; exact Nat.lt_succ_self _)
/-- Few fields of few bytes. -/
def SmF (k : Nat) (L : List Fld) : Prop := L.length ≤ k ∧ ∀ f ∈ L, f.1.length ≤ 300 ∧ f.2.length ≤ 300
theorem SmF.all {k : Nat} {L : List Fld} (h : SmF k L) : ∀ f ∈ L, f.1.length ≤ 1000000 ∧ f.2.length ≤ 1000000 := fun f hf => ⟨by have := (h.2 f hf).1; omega, by have := (h.2 f hf).2; omega⟩
section
variable {k : Nat} {L : List Fld} (h : SmF k L) (hk : k ≤ 900000) {ao : Option Addr} {cap : Nat} {w : World} (hc : Flds w.heap.size w (.slice ao L.length cap) L)
include h hk hc
theorem c_All {n : List UInt8} (hn : n.length ≤ 1000000) :
    Calls Tryd.prog 18 #[.slice ao L.length cap, .string ⟨n.toArray⟩] w fun e w' => ∃ v, e = .returned v ∧ w'.ownsRow w.heap.size 9 1 v (allL n L).length (strs (allL n L)) ∧ Below w.heap.size w w' := by
  have := head_All_any ao cap L (Nat.le_trans h.1 (by omega)) h.all ⟨n.toArray⟩ (by rw [ba_len]; exact hn) w hc.fa
  rwa [mk_toList] at this
theorem c_Get {n : List UInt8} (hn : n.length ≤ 1000000) :
    Calls Tryd.prog 15 #[.slice ao L.length cap, .string ⟨n.toArray⟩] w fun e w' => e = .returned (.tuple #[.string ⟨(getL n L).toArray⟩, .bool (!(allL n L).isEmpty)]) ∧ Below w.heap.size w w' := by
  have := head_Get_any ao cap L (Nat.le_trans h.1 (by omega)) h.all ⟨n.toArray⟩ (by rw [ba_len]; exact hn) w hc.fa
  rwa [mk_toList] at this
theorem c_Set {n v : List UInt8} (hn : n.length ≤ 1000000) :
    Calls Tryd.prog 20 #[.slice ao L.length cap, .string ⟨n.toArray⟩, .string ⟨v.toArray⟩] w fun e w' => ∃ sv, e = .returned sv ∧ w'.ownsRow w.heap.size 42 2 sv (setL n v L).length (flds (setL n v L)) ∧ Below w.heap.size w w' :=
  head_Set_any ao cap L (Nat.le_trans h.1 (by omega)) h.all n v hn w hc.fa
theorem c_Drop {names : List (List UInt8)} (hN : names.length ≤ 1000000) (hall : ∀ x ∈ names, x.length ≤ 140737488351232) {bo : Option Addr} {bcap : Nat} (hT : Texts w.heap.size w (.slice bo names.length bcap) names) :
    Calls Tryd.prog 22 #[.slice ao L.length cap, .slice bo names.length bcap] w fun e w' => ∃ v, e = .returned v ∧ w'.ownsRow w.heap.size 42 2 v (dropL names L).length (flds (dropL names L)) ∧ Below w.heap.size w w' :=
  head_Drop_any ao cap L (Nat.le_trans h.1 (by omega)) h.all bo bcap names hN hall w hc.fa hT.ta
theorem c_Same {m : Nat} {M : List Fld} (hm : SmF m M) (hk2 : m ≤ 900000) {bo : Option Addr} {bcap : Nat} (hb : Flds w.heap.size w (.slice bo M.length bcap) M) :
    Calls Tryd.prog 26 #[.slice ao L.length cap, .slice bo M.length bcap] w fun e w' => e = .returned (.bool (L == M)) ∧ Below w.heap.size w w' :=
  head_Same_any ao cap L bo bcap M (Nat.le_trans h.1 (by omega)) (Nat.le_trans hm.1 (by omega)) w hc.fa hb.fa
end
theorem c_Name (n : List UInt8) (w : World) : Calls Tryd.prog 27 #[.string ⟨n.toArray⟩] w fun e w' => e = .returned (.bool (nameB n)) ∧ Below w.heap.size w w' := by
  have := head_Name_any ⟨n.toArray⟩ w
  rwa [mk_toList] at this
theorem c_Value (n : List UInt8) (hn : n.length ≤ 1000000) (w : World) : Calls Tryd.prog 28 #[.string ⟨n.toArray⟩] w fun e w' => e = .returned (.bool (valueB n)) ∧ Below w.heap.size w w' := by
  have := head_Value_any ⟨n.toArray⟩ (by rw [ba_len]; exact hn) w
  rwa [mk_toList] at this
theorem c_Lower (n : List UInt8) (hn : n.length ≤ 1000000) (w : World) : Calls Tryd.prog 29 #[.string ⟨n.toArray⟩] w fun e w' => e = .returned (.string ⟨(lowL n).toArray⟩) ∧ Below w.heap.size w w' := by
  have := ascii_Lower_any ⟨n.toArray⟩ (by rw [ba_len]; omega) w
  rwa [mk_toList] at this
theorem c_same (n m : List UInt8) (hn : n.length ≤ 1000000) (hm : m.length ≤ 1000000) (w : World) : Calls Tryd.prog 30 #[.string ⟨n.toArray⟩, .string ⟨m.toArray⟩] w fun e w' => e = .returned (.bool (sameN n m)) ∧ Below w.heap.size w w' := by
  have := ascii_Same_any ⟨n.toArray⟩ ⟨m.toArray⟩ (by rw [ba_len]; omega) (by rw [ba_len]; omega) w
  rwa [mk_toList, mk_toList] at this

def exL : List Fld := [([97], [49]), ([65], [50])]
theorem ex_sm : SmF 2 exL := ⟨by decide, by decide⟩
theorem ex_parse : parseHd [97, 58, 32, 49, 13, 10, 65, 58, 50, 9, 13, 10] = (exL, true) := by decide +kernel
theorem ex_get : getL [97] exL = [49, 44, 32, 50] := by decide +kernel
theorem ex_has : (allL [97] exL).isEmpty = false := by decide +kernel
theorem ex_all : (allL [65] exL).length = 2 := by decide +kernel
theorem ex_set : (setL [97] [51] exL).length = 1 := by decide +kernel
theorem ex_drop : (dropL [[98], [65]] exL).length = 0 := by decide +kernel
theorem ex_n1 : nameB [120, 45, 121] = true := by decide +kernel
theorem ex_n2 : nameB [] = false := by decide +kernel
theorem ex_v1 : valueB [97, 32, 98] = true := by decide +kernel
theorem ex_v2 : valueB [32, 97] = false := by decide +kernel

set_option maxHeartbeats 8000000 in
set_option maxRecDepth 100000 in
theorem awake13 (w : World) (hG : Good w) : Calls Tryd.prog 10 #[] w fun e w' => e = .returned (.bool true) ∧ Below w.heap.size w w' := by
  have cP := fun w1 (hG : Good w1) => head_Parse_any [97, 58, 32, 49, 13, 10, 65, 58, 50, 9, 13, 10] (by decide) w1 hG
  simp only [ex_parse] at cP
  have cG := fun ao cap w1 hc => c_Get (ao := ao) (cap := cap) (w := w1) ex_sm (by decide) hc (n := [97]) (by decide)
  simp only [ex_get, ex_has, Bool.not_false] at cG
  have cA := fun ao cap w1 hc => c_All (ao := ao) (cap := cap) (w := w1) ex_sm (by decide) hc (n := [65]) (by decide)
  have cS := fun ao cap w1 hc => c_Set (ao := ao) (cap := cap) (w := w1) ex_sm (by decide) hc (n := [97]) (v := [51]) (by decide)
  have cD := fun ao cap w1 hc bo bcap hT => c_Drop (ao := ao) (cap := cap) (w := w1) ex_sm (by decide) hc (names := [[98], [65]]) (by decide) (by decide) (bo := bo) (bcap := bcap) hT
  have cQ := fun ao cap w1 hc => c_Same (ao := ao) (cap := cap) (w := w1) ex_sm (by decide) hc ex_sm (by decide) hc
  have n1 := fun w1 => c_Name [120, 45, 121] w1
  have n2 := fun w1 => c_Name [] w1
  have v1 := fun w1 => c_Value [97, 32, 98] (by decide) w1
  have v2 := fun w1 => c_Value [32, 97] (by decide) w1
  simp only [ex_n1, ex_n2, ex_v1, ex_v2] at n1 n2 v1 v2
  simp only [beq_self_eq_true] at cQ
  have q1 : ((exL.length : Int) == 2) = true := by rfl
  have q2 := ex_all
  have q3 := ex_set
  have q4 := ex_drop
  generalize allL [65] exL = A at *
  generalize setL [97] [51] exL = S at *
  generalize dropL [[98], [65]] exL = D at *
  replace q2 : ((A.length : Int) == 2) = true := by rw [q2]; rfl
  replace q3 : ((S.length : Int) == 1) = true := by rw [q3]; rfl
  replace q4 : ((D.length : Int) == 0) = true := by rw [q4]; rfl
  generalize exL = E at *

  have hk0 := Ok.refl hG
  go_enter Tryd.func10, Tryd.ntmps10
  go_wp2_with fail
  refine (cP w hk0.good).mono ?_
  rintro e w1 ⟨v1, rfl, ho1, hb1⟩
  have hkc1 := hk0.step hb1
  have hEn := flds_here ho1
  obtain ⟨aoE, caE, rfl⟩ := hEn.shape
  have hE0 := Lib.hid hEn
  clear hEn ho1
  go_wp2_with fail
  refine (cG _ _ w1 hE0.out).mono ?_
  rintro e w2 ⟨rfl, hb2⟩
  have hkc2 := hkc1.step hb2
  have hE1 := Lib.hid ((hE0.out.below hb2).mono hb2.size)
  clear hE0
  go_wp2_with fail
  refine (n1 w2).mono ?_
  rintro e w3 ⟨rfl, hb3⟩
  have hkc3 := hkc2.step hb3
  have hE2 := Lib.hid ((hE1.out.below hb3).mono hb3.size)
  clear hE1
  go_wp2_with fail
  refine (n2 w3).mono ?_
  rintro e w4 ⟨rfl, hb4⟩
  have hkc4 := hkc3.step hb4
  have hE3 := Lib.hid ((hE2.out.below hb4).mono hb4.size)
  clear hE2
  go_wp2_with fail
  refine (v1 w4).mono ?_
  rintro e w5 ⟨rfl, hb5⟩
  have hkc5 := hkc4.step hb5
  have hE4 := Lib.hid ((hE3.out.below hb5).mono hb5.size)
  clear hE3
  go_wp2_with fail
  refine (v2 w5).mono ?_
  rintro e w6 ⟨rfl, hb6⟩
  have hkc6 := hkc5.step hb6
  have hE5 := Lib.hid ((hE4.out.below hb6).mono hb6.size)
  clear hE4
  go_wp2_with fail
  refine (cA _ _ w6 hE5.out).mono ?_
  rintro e w7 ⟨v7, rfl, ho7, hb7⟩
  have hkc7 := hkc6.step hb7
  have hE6 := Lib.hid ((hE5.out.below hb7).mono hb7.size)
  clear hE5
  have hAn := (texts_own ho7 (Nat.le_refl _)).1
  obtain ⟨aoA, caA, rfl⟩ := hAn.shape
  have hA0 := Lib.hid hAn
  clear hAn ho7
  clear hA0
  go_wp2_with fail
  refine (cS _ _ w7 hE6.out).mono ?_
  rintro e w8 ⟨v8, rfl, ho8, hb8⟩
  have hkc8 := hkc7.step hb8
  have hE7 := Lib.hid ((hE6.out.below hb8).mono hb8.size)
  clear hE6
  have hSn := flds_here ho8
  obtain ⟨aoS, caS, rfl⟩ := hSn.shape
  have hS0 := Lib.hid hSn
  clear hSn ho8
  clear hS0
  have hba8 : Below w8.heap.size w8 (w8.alloc (.cells #[.string ⟨#[98]⟩, .string ⟨#[65]⟩] 9)) := (Below.refl _ _).alloc (Nat.le_refl _) _
  have hka8 := hkc8.alloc (.cells #[.string ⟨#[98]⟩, .string ⟨#[65]⟩] 9)
  have hNz := Lib.hid (texts_new w8 [[98], [65]] (cap := 2))
  have hE9 := Lib.hid ((hE7.out.below hba8).mono hba8.size)
  clear hE7
  go_wp2_with fail
  refine (cD _ _ (w8.alloc (.cells #[.string ⟨#[98]⟩, .string ⟨#[65]⟩] 9)) hE9.out _ _ hNz.out).mono ?_
  rintro e w9 ⟨v9, rfl, ho9, hb9⟩
  have hkc9 := hka8.step hb9
  have hE10 := Lib.hid ((hE9.out.below hb9).mono hb9.size)
  clear hE9
  have hN11 := Lib.hid ((hNz.out.below hb9).mono hb9.size)
  clear hNz
  have hDn := flds_here ho9
  obtain ⟨aoD, caD, rfl⟩ := hDn.shape
  have hD0 := Lib.hid hDn
  clear hDn ho9
  clear hD0
  clear hN11
  go_wp2_with fail
  refine (cQ _ _ w9 hE10.out).mono ?_
  rintro e w10 ⟨rfl, hb10⟩
  have hkc10 := hkc9.step hb10
  have hE12 := Lib.hid ((hE10.out.below hb10).mono hb10.size)
  clear hE10
  go_wp2
  go_ret
  exact ⟨rfl, hkc10.below⟩

end Go.Proofs.YtgbjofahmkeapaaDoor
