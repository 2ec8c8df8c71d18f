/- The reference's May and Run. -/
import Derived.Test.YtcpnfokpgiigcaaDoorSixT
namespace Go.Proofs.YtcpnfokpgiigcaaDoor
open Go.RowKit Go.Proofs.YtcpnfokpgiigcaaDoorW.PrintWords

set_option maxHeartbeats 1000000 in
set_option maxRecDepth 100000 in
theorem ref06_May (p : List Int) (h8 : p.length = 8) (w : World) :
    Calls Tryd.prog 30 #[.agg (ints p).toArray] w fun e w' => e = .returned (.bool (mayB p)) ∧ Below w.heap.size w w' := by
  have hrow : IntRow (w.alloc (.cells (ints p).toArray 33)) w.heap.size 33 p := IntRow.new w _ p
  obtain ⟨w0, hw0⟩ : ∃ w0, w0 = w.alloc (.cells (ints p).toArray 33) := ⟨_, rfl⟩
  have hb0 : Below w.heap.size w w0 := by rw [hw0]; exact (Below.refl _ _).alloc (Nat.le_refl _) _
  rw [← hw0] at hrow
  go_enter Tryd.func30, Tryd.ntmps30
  go_wp2
  rw [← hw0]
  clear hw0
  go_loop [3] (fun i => ∃ k : Nat, k ≤ 8 ∧ i = .int .i64 k ∧ Hid (mayB (p.take k) = true)) (fun i => 8 - (intOf i).toNat)
  case atStart => exact ⟨0, by omega, rfl, rfl⟩
  case round =>
    obtain ⟨k, hk, rfl, hm⟩ := hrel
    by_cases hk8 : k < 8
    · obtain ⟨x, hx⟩ : ∃ x, p[k]? = some x := ⟨_, List.getElem?_eq_getElem (by omega)⟩
      have hc := hrow.cell hx
      by_cases hb : 0 ≤ x ∧ x ≤ 65535
      · have hm2 : Hid (mayB (p.take (k + 1)) = true) := by
          show _ = _
          rw [List.take_add_one, hx]
          unfold mayB at *
          rw [List.all_append, hm.out]; simp; omega
        obtain ⟨h1, h2⟩ := hb
        clear hx
        go_wp2
        go_round
        case rel => exact ⟨k + 1, by omega, by go_num, hm2⟩
        case measure => simp [intOf]; omega
      · have hm2 : Hid (mayB p = false) := by
          show _ = _
          rw [Bool.eq_false_iff]
          intro h
          exact hb (mayB_mem h x (List.mem_of_getElem? hx))
        clear hx
        by_cases h1 : x < 0
        · clear hb
          go_wp2
          go_ret
          exact ⟨by rw [hm2.out]; rfl, hb0⟩
        · have h2 : 65535 < x := by omega
          clear hb
          go_wp2
          go_ret
          exact ⟨by rw [hm2.out]; rfl, hb0⟩
    · obtain rfl : k = 8 := by omega
      have hm2 : Hid (mayB p = true) := by have := hm.out; rwa [List.take_of_length_le (by omega)] at this
      go_wp2
      go_ret
      exact ⟨by rw [hm2.out]; rfl, hb0⟩

set_option maxHeartbeats 1000000 in
set_option maxRecDepth 100000 in
theorem ref06_Run (p : List Int) (h8 : p.length = 8) (w : World) :
    Calls Tryd.prog 29 #[.agg (ints p).toArray] w fun e w' => e = .returned (.tuple #[.int .i64 (runR p).1, .int .i64 (runR p).2]) ∧ Below w.heap.size w w' := by
  have hrow : IntRow (w.alloc (.cells (ints p).toArray 33)) w.heap.size 33 p := IntRow.new w _ p
  obtain ⟨w0, hw0⟩ : ∃ w0, w0 = w.alloc (.cells (ints p).toArray 33) := ⟨_, rfl⟩
  have hb0 : Below w.heap.size w w0 := by rw [hw0]; exact (Below.refl _ _).alloc (Nat.le_refl _) _
  rw [← hw0] at hrow
  go_enter Tryd.func29, Tryd.ntmps29
  go_wp2
  rw [← hw0]
  clear hw0
  go_loopg [4, 5, 6] 8 (fun g at_ lo i wx => ∃ k a n : Nat, k + g = 8 ∧ i = .int .i64 k ∧ at_ = .int .i64 a ∧ lo = .int .i64 n ∧ Hid (runFrom k (p.drop k) (a, n) = runR p) ∧ wx = w0)
  case atStart => exact ⟨0, 0, 0, by omega, rfl, rfl, rfl, rfl, rfl⟩
  case round =>
    obtain ⟨k, a, n, hk, rfl, rfl, rfl, hrf, rfl⟩ := hrel
    cases gk with
    | zero =>
      have hk8 : k = 8 := by omega
      subst hk8
      have hr := hrf.out
      rw [List.drop_eq_nil_of_le (by omega)] at hr
      have hr' : runR p = (a, n) := hr.symm
      have e1 : (runR p).1 = a := by rw [hr']
      have e2 : (runR p).2 = n := by rw [hr']
      clear hr hr'
      go_wp2
      go_ret2
      exact ⟨by first | rfl | (rw [e1, e2]; rfl), hb0⟩
    | succ g0 =>
      have hk8 : k < 8 := by omega
      go_wp2
      go_loopg [7] (8 - k) (fun g n wy => ∃ m : Nat, m + g = 8 - k ∧ n = .int .i64 m ∧ Hid (noughts (p.drop k) = m + noughts (p.drop (k + m))) ∧ wy = wr)
      case atStart => exact ⟨0, by omega, rfl, by show _ = _; simp, rfl⟩
      case round =>
        obtain ⟨m, hm, rfl, hno, rfl⟩ := hrel
        cases gk with
        | zero =>
          have hkm : k + m = 8 := by omega
          have hlt : ¬ ((k : Int) + m < 8) := by omega
          have hno2 : noughts (p.drop k) = m := by rw [hno.out, List.drop_eq_nil_of_le (by omega)]; rfl
          have hm8 : m ≤ 8 := by omega
          clear hm hkm
          have hstep := hrf.out
          rw [List.drop_eq_getElem_cons (by omega : k < p.length), runFrom_cons, ← List.drop_eq_getElem_cons (by omega : k < p.length), hno2] at hstep
          by_cases hc : n < m ∧ 1 < m
          · rw [if_pos hc] at hstep
            have HS := Lib.hid hstep
            obtain ⟨c1, c2⟩ := hc
            clear hstep hno2
            go_wp2
            go_roundg g0
            case measure => omega
            case rel => exact ⟨k + 1, k, m, by omega, by go_num, rfl, rfl, HS.out, rfl⟩
          · rw [if_neg hc] at hstep
            have HS := Lib.hid hstep
            have hc' : m ≤ n ∨ n < m ∧ m ≤ 1 := by omega
            clear hstep hno2 hc
            rcases hc' with c1 | ⟨c1, c2⟩
            · go_wp2
              go_roundg g0
              case measure => omega
              case rel => exact ⟨k + 1, a, n, by omega, by go_num, rfl, rfl, HS.out, rfl⟩
            · go_wp2
              go_roundg g0
              case measure => omega
              case rel => exact ⟨k + 1, a, n, by omega, by go_num, rfl, rfl, HS.out, rfl⟩
        | succ g1 =>
          have hlt : (k : Int) + m < 8 := by omega
          obtain ⟨x, hx⟩ : ∃ x, p[k + m]? = some x := ⟨_, List.getElem?_eq_getElem (by omega)⟩
          have hc := hrow.cell hx
          by_cases hx0 : x = 0
          · subst hx0
            have HS := Lib.hid (noughts_step hno.out hx)
            clear hx
            go_wp2
            go_roundg g1
            case measure => omega
            case rel => exact ⟨m + 1, by omega, by go_num, HS.out, rfl⟩
          · have hno2 := noughts_stop hno.out hx hx0
            have hxb : (x == 0) = false := by simpa using hx0
            have hm8 : m ≤ 8 := by omega
            clear hx
            have hstep := hrf.out
            rw [List.drop_eq_getElem_cons (by omega : k < p.length), runFrom_cons, ← List.drop_eq_getElem_cons (by omega : k < p.length), hno2] at hstep
            by_cases hcc : n < m ∧ 1 < m
            · rw [if_pos hcc] at hstep
              have HS := Lib.hid hstep
              obtain ⟨c1, c2⟩ := hcc
              clear hstep hno2
              go_wp2
              go_roundg g0
              case measure => omega
              case rel => exact ⟨k + 1, k, m, by omega, by go_num, rfl, rfl, HS.out, rfl⟩
            · rw [if_neg hcc] at hstep
              have HS := Lib.hid hstep
              have hc' : m ≤ n ∨ n < m ∧ m ≤ 1 := by omega
              clear hstep hno2 hcc
              rcases hc' with c1 | ⟨c1, c2⟩
              · go_wp2
                go_roundg g0
                case measure => omega
                case rel => exact ⟨k + 1, a, n, by omega, by go_num, rfl, rfl, HS.out, rfl⟩
              · go_wp2
                go_roundg g0
                case measure => omega
                case rel => exact ⟨k + 1, a, n, by omega, by go_num, rfl, rfl, HS.out, rfl⟩

end Go.Proofs.YtcpnfokpgiigcaaDoor
