/- Header fields: two lists compared. -/
import Derived.Test.YtgbjofahmkeapaaDoorHead3
import Derived.BigRegion
import Derived.Test.YtgbjofahmkeapaaDoorWEqStruct
namespace Go.Proofs.YtgbjofahmkeapaaDoor
open Go.RowKit Go.Proofs.YtgbjofahmkeapaaDoorW.PrintWords
set_option linter.unusedVariables false
set_option linter.unnecessarySimpa false

theorem eqFld (a b c d : ByteArray) (w : World) : (Op.equalIn 10000 42 (.agg #[.string a, .string b]) (.agg #[.string c, .string d])).run Tryd.prog w = .ok (a.toList == c.toList && b.toList == d.toList) w := by
  refine eqA_of Tryd.underlying42 (by kernel_rfl) ?_
  refine eqf_cons rfl (a := .string a) (b := .string c) (by kernel_rfl) (by kernel_rfl) (run_equalIn_string _ _ _ _ _ Tryd.underlying9) ?_
  exact eqf_last rfl (a := .string b) (b := .string d) (by kernel_rfl) (by kernel_rfl) (run_equalIn_string _ _ _ _ _ Tryd.underlying9)
theorem eqFld_yes (x : Fld) (w : World) : (Op.equalIn 10000 42 (.agg #[.string ⟨x.1.toArray⟩, .string ⟨x.2.toArray⟩]) (.agg #[.string ⟨x.1.toArray⟩, .string ⟨x.2.toArray⟩])).run Tryd.prog w = .ok true w := by
  rw [eqFld]; simp
theorem eqFld_no {x y : Fld} (h : x ≠ y) (w : World) : (Op.equalIn 10000 42 (.agg #[.string ⟨x.1.toArray⟩, .string ⟨x.2.toArray⟩]) (.agg #[.string ⟨y.1.toArray⟩, .string ⟨y.2.toArray⟩])).run Tryd.prog w = .ok false w := by
  rw [eqFld, ba_toList, ba_toList, ba_toList, ba_toList, mk_toList, mk_toList, mk_toList, mk_toList]
  refine congrArg (fun b => Result.ok b w) ?_
  rw [Bool.eq_false_iff]
  intro e
  simp only [Bool.and_eq_true, beq_iff_eq] at e
  exact h (Prod.ext e.1 e.2)

set_option maxHeartbeats 2000000 in
set_option maxRecDepth 100000 in
theorem equalF_any (ao : Option Addr) (ca : Nat) (a : List Fld) (bo : Option Addr) (cb : Nat) (b : List Fld) (hla : a.length ≤ 1000000) (hlb : b.length ≤ 1000000) (w : World) (ha : FldsAt w.heap.size w ao a) (hb : FldsAt w.heap.size w bo b) :
    Calls Tryd.prog 46 #[.slice ao a.length ca, .slice bo b.length cb] w fun e w' => e = .returned (.bool (a == b)) ∧ Below w.heap.size w w' := by
  by_cases hlen : a.length = b.length
  · have HA := Lib.hid ha
    have HB := Lib.hid hb
    have HLen := Lib.hid hlen
    rw [← hlen]
    clear ha hb hlb
    go_enter Tryd.func46, Tryd.ntmps46
    go_wp2
    go_loopw [13] (fun i wr => ∃ k : Nat, k ≤ a.length ∧ i = .int .i64 k ∧ Hid (a.take k = b.take k) ∧ Below w.heap.size w wr) (fun i _ => a.length - (intOf i).toNat)
    case atStart => exact ⟨0, by omega, rfl, rfl, Below.refl _ _⟩
    case round =>
      obtain ⟨k, hk, rfl, heq, hbl⟩ := hrel
      by_cases hlt : k < a.length
      · obtain ⟨x, hx⟩ : ∃ x, a[k]? = some x := ⟨_, List.getElem?_eq_getElem hlt⟩
        obtain ⟨y, hy⟩ : ∃ y, b[k]? = some y := ⟨_, List.getElem?_eq_getElem (by have := HLen.out; omega)⟩
        obtain ⟨ga, oa, rfl, hga, a1, a2⟩ := HA.out k _ hx
        obtain ⟨gb, ob, rfl, hgb, b1, b2⟩ := HB.out k _ hy
        have c1 := (hbl.cell (p := ⟨ga, oa + k * 2, none⟩) hga).trans a1
        have c2 := (hbl.cell (p := ⟨ga, oa + k * 2 + 1, none⟩) hga).trans a2
        have c3 := (hbl.cell (p := ⟨gb, ob + k * 2, none⟩) hgb).trans b1
        have c4 := (hbl.cell (p := ⟨gb, ob + k * 2 + 1, none⟩) hgb).trans b2
        by_cases hxy : x = y
        · have hs : a.take (k + 1) = b.take (k + 1) := by rw [List.take_add_one, List.take_add_one, hx, hy, heq.out, hxy]
          have HS := Lib.hid hs
          clear hs hx hy heq a1 a2 b1 b2
          subst hxy
          have hE := eqFld_yes x
          obtain ⟨p, q⟩ := x
          dsimp only at c1 c2 c3 c4 hE
          go_wp2
          go_big_region
          go_wp2
          refine ⟨⟨k + 1, by omega, by go_num, HS.out, hbl.drew⟩, by simp [intOf]; omega⟩
        · have hne : (a == b) = false := beq_eq_false_iff_ne.2 (fun e => hxy (by rw [e, hy] at hx; exact (Option.some.inj hx).symm))
          have HN := Lib.hid hne
          have hE := eqFld_no hxy
          obtain ⟨p, q⟩ := x
          obtain ⟨p2, q2⟩ := y
          dsimp only at c1 c2 c3 c4 hE
          clear hx hy heq hne a1 a2 b1 b2 hxy
          go_wp2
          go_big_region
          go_wp2
          go_ret
          exact ⟨by rw [HN.out]; rfl, hbl.drew⟩
      · obtain rfl : k = a.length := by omega
        have hab : (a == b) = true := by
          have h := heq.out
          rw [List.take_length, HLen.out, List.take_length] at h
          rw [h]; exact beq_self_eq_true b
        have HN := Lib.hid hab
        clear hab heq
        go_wp2
        go_ret
        exact ⟨by rw [HN.out]; rfl, hbl⟩
  · have hne : (a == b) = false := beq_eq_false_iff_ne.2 (fun e => hlen (by rw [e]))
    have hz : ¬ ((a.length : Int) = b.length) := by omega
    rw [hne]
    clear hne ha hb
    go_enter Tryd.func46, Tryd.ntmps46
    go_wp2
    go_ret
    exact ⟨rfl, Below.refl _ _⟩

set_option maxHeartbeats 2000000 in
set_option maxRecDepth 100000 in
theorem ref13_Same_any (ao : Option Addr) (ca : Nat) (a : List Fld) (bo : Option Addr) (cb : Nat) (b : List Fld) (hla : a.length ≤ 1000000) (hlb : b.length ≤ 1000000) (w : World) (ha : FldsAt w.heap.size w ao a) (hb : FldsAt w.heap.size w bo b) :
    Calls Tryd.prog 14 #[.slice ao a.length ca, .slice bo b.length cb] w fun e w' => e = .returned (.bool (a == b)) ∧ Below w.heap.size w w' := by
  by_cases hlen : a.length = b.length
  · have HA := Lib.hid ha
    have HB := Lib.hid hb
    have HLen := Lib.hid hlen
    rw [← hlen]
    clear ha hb hlb
    go_enter Tryd.func14, Tryd.ntmps14
    go_wp2
    go_loopw [5] (fun i wr => ∃ k : Nat, k ≤ a.length ∧ i = .int .i64 k ∧ Hid (a.take k = b.take k) ∧ Below w.heap.size w wr) (fun i _ => a.length - (intOf i).toNat)
    case atStart => exact ⟨0, by omega, rfl, rfl, Below.refl _ _⟩
    case round =>
      obtain ⟨k, hk, rfl, heq, hbl⟩ := hrel
      by_cases hlt : k < a.length
      · obtain ⟨x, hx⟩ : ∃ x, a[k]? = some x := ⟨_, List.getElem?_eq_getElem hlt⟩
        obtain ⟨y, hy⟩ : ∃ y, b[k]? = some y := ⟨_, List.getElem?_eq_getElem (by have := HLen.out; omega)⟩
        obtain ⟨ga, oa, rfl, hga, a1, a2⟩ := HA.out k _ hx
        obtain ⟨gb, ob, rfl, hgb, b1, b2⟩ := HB.out k _ hy
        have c1 := (hbl.cell (p := ⟨ga, oa + k * 2, none⟩) hga).trans a1
        have c2 := (hbl.cell (p := ⟨ga, oa + k * 2 + 1, none⟩) hga).trans a2
        have c3 := (hbl.cell (p := ⟨gb, ob + k * 2, none⟩) hgb).trans b1
        have c4 := (hbl.cell (p := ⟨gb, ob + k * 2 + 1, none⟩) hgb).trans b2
        by_cases hxy : x = y
        · have hs : a.take (k + 1) = b.take (k + 1) := by rw [List.take_add_one, List.take_add_one, hx, hy, heq.out, hxy]
          have HS := Lib.hid hs
          clear hs hx hy heq a1 a2 b1 b2
          subst hxy
          have hE := eqFld_yes x
          obtain ⟨p, q⟩ := x
          dsimp only at c1 c2 c3 c4 hE
          go_wp2
          go_big_region
          go_wp2
          refine ⟨⟨k + 1, by omega, by go_num, HS.out, hbl.drew⟩, by simp [intOf]; omega⟩
        · have hne : (a == b) = false := beq_eq_false_iff_ne.2 (fun e => hxy (by rw [e, hy] at hx; exact (Option.some.inj hx).symm))
          have HN := Lib.hid hne
          have hE := eqFld_no hxy
          obtain ⟨p, q⟩ := x
          obtain ⟨p2, q2⟩ := y
          dsimp only at c1 c2 c3 c4 hE
          clear hx hy heq hne a1 a2 b1 b2 hxy
          go_wp2
          go_big_region
          go_wp2
          go_ret
          exact ⟨by rw [HN.out]; rfl, hbl.drew⟩
      · obtain rfl : k = a.length := by omega
        have hab : (a == b) = true := by
          have h := heq.out
          rw [List.take_length, HLen.out, List.take_length] at h
          rw [h]; exact beq_self_eq_true b
        have HN := Lib.hid hab
        clear hab heq
        go_wp2
        go_ret
        exact ⟨by rw [HN.out]; rfl, hbl⟩
  · have hne : (a == b) = false := beq_eq_false_iff_ne.2 (fun e => hlen (by rw [e]))
    have hz : ¬ ((a.length : Int) = b.length) := by omega
    rw [hne]
    clear hne ha hb
    go_enter Tryd.func14, Tryd.ntmps14
    go_wp2
    go_ret
    exact ⟨rfl, Below.refl _ _⟩

theorem head_Same_any (ao : Option Addr) (ca : Nat) (a : List Fld) (bo : Option Addr) (cb : Nat) (b : List Fld) (hla : a.length ≤ 1000000) (hlb : b.length ≤ 1000000) (w : World) (ha : FldsAt w.heap.size w ao a) (hb : FldsAt w.heap.size w bo b) :
    Calls Tryd.prog 26 #[.slice ao a.length ca, .slice bo b.length cb] w fun e w' => e = .returned (.bool (a == b)) ∧ Below w.heap.size w w' := by
  have h := equalF_any ao ca a bo cb b hla hlb w ha hb
  go_enter Tryd.func26, Tryd.ntmps26
  go_wp2_with fail
  refine h.mono ?_
  rintro e w1 ⟨rfl, hb1⟩
  go_wp2
  go_ret
  exact ⟨rfl, hb1⟩

end Go.Proofs.YtgbjofahmkeapaaDoor
