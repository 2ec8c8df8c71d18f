/- Header fields: the reference's Name, blank, Value, trim. -/
import Derived.Test.YtgbjofahmkeapaaDoorHead7
import Derived.Test.YtgbjofahmkeapaaDoorAny3
import Derived.Test.YtgbjofahmkeapaaDoorRef1b
import Derived.BigRegion
namespace Go.Proofs.YtgbjofahmkeapaaDoor
open Go.RowKit Go.Proofs.YtgbjofahmkeapaaDoorW.PrintWords
set_option linter.unusedVariables false
set_option linter.unnecessarySimpa false

theorem nm_head (c : UInt8) : nmC set_head c = (alphaB c || digitB c || set_head.contains c) := by
  have key : ∀ n : Nat, n < 256 → nmC set_head (UInt8.ofNat n) = (alphaB (UInt8.ofNat n) || digitB (UInt8.ofNat n) || set_head.contains (UInt8.ofNat n)) := by decide +kernel
  have := key c.toNat c.toNat_lt
  rwa [UInt8.ofNat_toNat] at this
theorem all_step {l : List UInt8} {k : Nat} {c : UInt8} {p : UInt8 → Bool} (h : l[k]? = some c) : (l.take (k + 1)).all p = ((l.take k).all p && p c) := by
  rw [List.take_add_one, h, List.all_append]; simp
theorem any_step {l : List UInt8} {k : Nat} {c : UInt8} {p : UInt8 → Bool} (h : l[k]? = some c) : (l.take (k + 1)).any p = ((l.take k).any p || p c) := by
  rw [List.take_add_one, h, List.any_append]; simp
theorem all_no {l : List UInt8} {c : UInt8} {p : UInt8 → Bool} (h : c ∈ l) (hp : p c = false) : l.all p = false := by
  rw [Bool.eq_false_iff]
  intro e
  have := List.all_eq_true.1 e c h
  rw [hp] at this; exact Bool.noConfusion this
theorem contains_any (l : List UInt8) (c : UInt8) : (l.any fun o => o == c) = l.contains c := by
  induction l with
  | nil => rfl
  | cons a l ih => rw [List.any_cons, List.contains_cons, ih, Bool.beq_comm]

set_option maxHeartbeats 4000000 in
set_option maxRecDepth 100000 in
theorem ref13_Name (s : ByteArray) (hs : s.size ≤ 1000000) (w : World) :
    Calls Tryd.prog 24 #[.string s] w fun e w' => e = .returned (.bool (nameB s.data.toList)) ∧ Below w.heap.size w w' := by
  have HSL := Lib.hid (size_list s)
  have hgt : decide (0 < s.size) = !s.data.toList.isEmpty := by
    have h := HSL.out
    cases hl : s.data.toList with
    | nil => rw [hl] at h; simp [h]
    | cons a t => rw [hl] at h; simp [h]
  have HGT := Lib.hid hgt
  clear hgt
  obtain ⟨O, hO⟩ : ∃ O : ByteArray, O = ⟨#[33, 35, 36, 37, 38, 39, 42, 43, 45, 46, 94, 95, 96, 124, 126]⟩ := ⟨_, rfl⟩
  have hOl : Hid (O.data.toList = set_head) := by show _ = _; rw [hO]; rfl
  have hOs : Hid (O.size = 15) := by show _ = _; rw [hO]; rfl
  go_enter Tryd.func24, Tryd.ntmps24
  go_wp2
  rw [← hO]
  clear hO
  go_loopw [4] (fun i wr => ∃ k : Nat, k ≤ s.size ∧ i = .int .i64 k ∧ Hid ((s.data.toList.take k).all (nmC set_head) = true) ∧ Below w.heap.size w wr) (fun i _ => s.size - (intOf i).toNat)
  case atStart => exact ⟨0, by omega, rfl, rfl, Below.refl _ _⟩
  case round =>
    obtain ⟨k, hk, rfl, hno, hbl⟩ := hrel
    by_cases hkl : k < s.size
    · obtain ⟨c, hx⟩ : ∃ c, s.data.toList[k]? = some c := ⟨_, List.getElem?_eq_getElem (by have := HSL.out; omega)⟩
      have hg : s[k]'hkl = c := get_cons (l := s.data.toList.drop (k + 1)) (by rw [List.drop_eq_getElem_cons (by have := HSL.out; omega), (List.getElem?_eq_some_iff.1 hx).2]) _
      have hA := fun w1 => ref1_Alpha c w1
      have hD := fun w1 => ref1_Digit c w1
      have hst := Lib.hid (all_step (p := nmC set_head) hx)
      have hmem := Lib.hid (List.mem_of_getElem? hx)
      have hnm := Lib.hid (nm_head c)
      clear hx
      have HBL := Lib.hid hbl
      generalize alphaB c = A at *
      generalize digitB c = D at *
      cases A with
      | true =>
        go_wp2_with (first | (go_at_call 43; refine (hA _).mono ?_; rintro e w1 ⟨rfl, rfl⟩) | (go_at_call 44; refine (hD _).mono ?_; rintro e w2 ⟨rfl, rfl⟩))
        clear hA hD hbl
        go_loopw [7, 8] (fun g q wr => ∃ j : Nat, j ≤ 15 ∧ q = .int .i64 j ∧ g = .bool (true || (set_head.take j).any fun o => o == c) ∧ Below w.heap.size w wr) (fun _ q _ => 15 - (intOf q).toNat)
        case atStart => exact ⟨0, by omega, rfl, by simp, HBL.out⟩
        case round =>
          obtain ⟨j, hj, rfl, rfl, hbl1⟩ := hrel
          have hos := hOs.out
          by_cases hjl : j < 15
          · have hj2 : j < O.size := by omega
            obtain ⟨o, ho⟩ : ∃ o, set_head[j]? = some o := ⟨_, List.getElem?_eq_getElem (by show j < 15; exact hjl)⟩
            have hoj : O[j]'hj2 = o := by
              have h1 : O.data.toList[j]? = some o := by rw [hOl.out]; exact ho
              exact get_cons (l := O.data.toList.drop (j + 1)) (by rw [List.drop_eq_getElem_cons (List.getElem?_eq_some_iff.1 h1).1, (List.getElem?_eq_some_iff.1 h1).2]) _
            have hq : ((o.toNat : Int) == (c.toNat : Int)) = (o == c) := by
              rw [Bool.eq_iff_iff, beq_iff_eq, beq_iff_eq]
              exact ⟨fun h => UInt8.toNat_inj.1 (by omega), fun h => by rw [h]⟩
            have hst2 := Lib.hid (any_step (p := fun o => o == c) ho)
            clear ho
            generalize (set_head.take j).any (fun o => o == c) = G at *
            clear hos
            cases G with
            | true =>
              rw [Bool.or_true]
              go_wp2
              go_big_region
              go_wp2
              exact ⟨⟨j + 1, by omega, by go_num, by rw [hst2.out]; simp, hbl1.drew⟩, by simp [intOf]; omega⟩
            | false =>
              rw [Bool.or_false]
              go_wp2
              go_big_region
              go_wp2
              exact ⟨⟨j + 1, by omega, by go_num, by rw [hst2.out]; simp, hbl1.drew⟩, by simp [intOf]; omega⟩
          · obtain rfl : j = 15 := by omega
            have e15 : set_head.take 15 = set_head := rfl
            rw [e15, contains_any]
            cases hgood : (true || set_head.contains c) with
            | true =>
              have hn : Hid ((s.data.toList.take (k + 1)).all (nmC set_head) = true) := by show _ = _; rw [hst.out, hno.out, hnm.out]; simpa using hgood
              go_wp2
              go_roundw
              case rel => exact ⟨k + 1, by omega, by go_num, hn, hbl1⟩
              case measure => simp [intOf]; omega
            | false =>
              have hn : Hid (nameB s.data.toList = false) := by
                show _ = _
                unfold nameB
                rw [all_no hmem.out (by rw [hnm.out]; simpa using hgood), Bool.and_false]
              go_wp2
              go_ret
              exact ⟨by rw [hn.out]; rfl, hbl1⟩
      | false =>
        go_wp2_with (first | (go_at_call 43; refine (hA _).mono ?_; rintro e w1 ⟨rfl, rfl⟩) | (go_at_call 44; refine (hD _).mono ?_; rintro e w2 ⟨rfl, rfl⟩))
        clear hA hD hbl
        go_loopw [7, 8] (fun g q wr => ∃ j : Nat, j ≤ 15 ∧ q = .int .i64 j ∧ g = .bool (D || (set_head.take j).any fun o => o == c) ∧ Below w.heap.size w wr) (fun _ q _ => 15 - (intOf q).toNat)
        case atStart => exact ⟨0, by omega, rfl, by simp, HBL.out⟩
        case round =>
          obtain ⟨j, hj, rfl, rfl, hbl1⟩ := hrel
          have hos := hOs.out
          by_cases hjl : j < 15
          · have hj2 : j < O.size := by omega
            obtain ⟨o, ho⟩ : ∃ o, set_head[j]? = some o := ⟨_, List.getElem?_eq_getElem (by show j < 15; exact hjl)⟩
            have hoj : O[j]'hj2 = o := by
              have h1 : O.data.toList[j]? = some o := by rw [hOl.out]; exact ho
              exact get_cons (l := O.data.toList.drop (j + 1)) (by rw [List.drop_eq_getElem_cons (List.getElem?_eq_some_iff.1 h1).1, (List.getElem?_eq_some_iff.1 h1).2]) _
            have hq : ((o.toNat : Int) == (c.toNat : Int)) = (o == c) := by
              rw [Bool.eq_iff_iff, beq_iff_eq, beq_iff_eq]
              exact ⟨fun h => UInt8.toNat_inj.1 (by omega), fun h => by rw [h]⟩
            have hst2 := Lib.hid (any_step (p := fun o => o == c) ho)
            clear ho
            generalize (set_head.take j).any (fun o => o == c) = G at *
            clear hos
            cases G with
            | true =>
              rw [Bool.or_true]
              go_wp2
              go_big_region
              go_wp2
              exact ⟨⟨j + 1, by omega, by go_num, by rw [hst2.out]; simp, hbl1.drew⟩, by simp [intOf]; omega⟩
            | false =>
              rw [Bool.or_false]
              cases D with
              | true =>
                go_wp2
                go_big_region
                go_wp2
                exact ⟨⟨j + 1, by omega, by go_num, by rw [hst2.out]; simp, hbl1.drew⟩, by simp [intOf]; omega⟩
              | false =>
                go_wp2
                go_big_region
                go_wp2
                exact ⟨⟨j + 1, by omega, by go_num, by rw [hst2.out]; simp, hbl1.drew⟩, by simp [intOf]; omega⟩
          · obtain rfl : j = 15 := by omega
            have e15 : set_head.take 15 = set_head := rfl
            rw [e15, contains_any]
            cases hgood : (D || set_head.contains c) with
            | true =>
              have hn : Hid ((s.data.toList.take (k + 1)).all (nmC set_head) = true) := by show _ = _; rw [hst.out, hno.out, hnm.out]; simpa using hgood
              go_wp2
              go_roundw
              case rel => exact ⟨k + 1, by omega, by go_num, hn, hbl1⟩
              case measure => simp [intOf]; omega
            | false =>
              have hn : Hid (nameB s.data.toList = false) := by
                show _ = _
                unfold nameB
                rw [all_no hmem.out (by rw [hnm.out]; simpa using hgood), Bool.and_false]
              go_wp2
              go_ret
              exact ⟨by rw [hn.out]; rfl, hbl1⟩
    · obtain rfl : k = s.size := by omega
      rw [HSL.out, List.take_length] at hno
      go_wp2
      go_ret
      refine ⟨?_, hbl⟩
      unfold nameB
      rw [hno.out, ← HGT.out, Bool.and_true]
      rfl

end Go.Proofs.YtgbjofahmkeapaaDoor
