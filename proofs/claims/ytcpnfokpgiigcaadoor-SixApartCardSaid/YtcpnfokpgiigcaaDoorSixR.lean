/- six.Run -/
import Derived.Test.YtcpnfokpgiigcaaDoorSixW
import Derived.Deep.LoopGhost
namespace Go.Proofs.YtcpnfokpgiigcaaDoor
open Go.RowKit Go.Proofs.YtcpnfokpgiigcaaDoorW.PrintWords

/-- What holds between the rounds. -/
structure RunAt (p : List Int) (k a N : Nat) : Prop where
  n : ∃ n, (n = N ∧ 2 ≤ N ∨ n = 0 ∧ N = 1 ∧ a = 0) ∧ runFrom k (p.drop k) (a, n) = runR p
  pos : 1 ≤ N
theorem RunAt.keep {p : List Int} {k a N : Nat} (h : RunAt p k a N) (hk : k < p.length) (hn : noughts (p.drop k) ≤ N) : RunAt p (k + 1) a N := by
  obtain ⟨⟨n, hc, hr⟩, hp⟩ := h
  refine ⟨⟨n, hc, ?_⟩, hp⟩
  rw [List.drop_eq_getElem_cons hk] at hr hn
  rw [runFrom_cons, if_neg (by rcases hc with ⟨h, _⟩ | ⟨_, h, _⟩ <;> omega)] at hr
  exact hr
theorem RunAt.more {p : List Int} {k a N : Nat} (h : RunAt p k a N) (hk : k < p.length) (hn : N < noughts (p.drop k)) : RunAt p (k + 1) k (noughts (p.drop k)) := by
  obtain ⟨⟨n, hc, hr⟩, hp⟩ := h
  refine ⟨⟨_, Or.inl ⟨rfl, by omega⟩, ?_⟩, by omega⟩
  rw [List.drop_eq_getElem_cons hk] at hr hn ⊢
  rw [runFrom_cons, if_pos (by rcases hc with ⟨h, _⟩ | ⟨h, _⟩ <;> simp only [h] <;> omega)] at hr
  exact hr
theorem noughts_step {p : List Int} {k j : Nat} (hj : noughts (p.drop k) = j + noughts (p.drop (k + j))) (hx : p[k + j]? = some 0) : noughts (p.drop k) = (j + 1) + noughts (p.drop (k + (j + 1))) := by
  have hlt := (List.getElem?_eq_some_iff.1 hx).1
  have he := (List.getElem?_eq_some_iff.1 hx).2
  rw [hj, List.drop_eq_getElem_cons hlt, noughts, if_pos he]
  rw [show k + (j + 1) = k + j + 1 from rfl]; omega
theorem noughts_stop {p : List Int} {k j : Nat} {x : Int} (hj : noughts (p.drop k) = j + noughts (p.drop (k + j))) (hx : p[k + j]? = some x) (h : x ≠ 0) : noughts (p.drop k) = j := by
  have hlt := (List.getElem?_eq_some_iff.1 hx).1
  have he := (List.getElem?_eq_some_iff.1 hx).2
  rw [hj, List.drop_eq_getElem_cons hlt, noughts, if_neg (by rw [he]; exact h)]; omega

set_option maxHeartbeats 1000000 in
set_option maxRecDepth 100000 in
theorem six_Run_any (p : List Int) (h8 : p.length = 8) (w : World) :
    Calls Tryd.prog 28 #[.agg (ints p).toArray] w fun e w' => e = .returned (.tuple #[.int .i64 (runR p).1, .int .i64 (runR p).2]) ∧ w' = w.alloc (.cells (ints p).toArray 33) := by
  have hrow : IntRow (w.alloc (.cells (ints p).toArray 33)) w.heap.size 33 p := IntRow.new w _ p
  obtain ⟨w0, hw0⟩ : ∃ w0, w0 = w.alloc (.cells (ints p).toArray 33) := ⟨_, rfl⟩
  have HW := Lib.hid hw0
  go_enter Tryd.func28, Tryd.ntmps28
  go_wp2
  go_step3
  go_wp2
  go_step3
  go_wp2
  rw [← hw0] at hrow ⊢
  clear hw0
  go_loopg [4, 5, 10] 8 (fun g at_ lo i wx => ∃ k a N : Nat, k + g = 8 ∧ i = .int .i64 k ∧ at_ = .int .i64 a ∧ lo = .int .i64 N ∧ a ≤ 8 ∧ N ≤ 8 ∧ Hid (RunAt p k a N) ∧ wx = w0)
  case atStart => exact ⟨0, 0, 1, by omega, rfl, rfl, rfl, by omega, by omega, ⟨⟨0, Or.inr ⟨rfl, rfl, rfl⟩, rfl⟩, by omega⟩, rfl⟩
  case round =>
    obtain ⟨k, a, N, hk, rfl, rfl, rfl, ha, hN8, hrf, rfl⟩ := hrel
    cases gk with
    | zero =>
      have hk8 : k = 8 := by omega
      subst hk8
      obtain ⟨⟨n, hn, hr⟩, hp⟩ := hrf.out
      rw [List.drop_eq_nil_of_le (by omega)] at hr
      have hr' : runR p = (a, n) := hr.symm
      have e1 : (runR p).1 = a := by rw [hr']
      have e2 : (runR p).2 = n := by rw [hr']
      rcases hn with ⟨rfl, h2⟩ | ⟨rfl, rfl, rfl⟩
      · go_wp2
        go_ret2
        exact ⟨by rw [e1, e2]; rfl, HW.out⟩
      · go_wp2
        go_ret2
        exact ⟨by rw [e1, e2]; rfl, HW.out⟩
    | succ g0 =>
      have hk8 : k < 8 := by omega
      have hsl := run_sliceAt_from (P := Tryd.prog) Tryd.underlying33 (by kernel_rfl) (by kernel_rfl) w.heap.size k hk8
      go_wp2
      go_loopg [7, 16] (8 - k) (fun g n j wy => ∃ m : Nat, m + g = 8 - k ∧ n = .int .i64 m ∧ j = .int .i64 m ∧ Hid (noughts (p.drop k) = m + noughts (p.drop (k + m))) ∧ wy = wr)
      case atStart => exact ⟨0, by omega, rfl, rfl, by show _ = _; simp, rfl⟩
      case round =>
        obtain ⟨m, hm, rfl, rfl, hno, rfl⟩ := hrel
        cases gk with
        | zero =>
          have hmk : m = 8 - k := by omega
          have hlt : ¬ ((m : Int) < ((8 - k : Nat) : Int)) := by omega
          have hno2 : noughts (p.drop k) = m := by rw [hno.out, List.drop_eq_nil_of_le (by omega)]; rfl
          have hm8 : m ≤ 8 := by omega
          clear hmk hm
          by_cases hNm : N < m
          · have hNi : (N : Int) < (m : Int) := by omega
            have hrm := hrf.out.more (by omega) (by rw [hno2]; exact hNm)
            rw [hno2] at hrm
            have HR := Lib.hid hrm
            clear hno2 hrm
            go_wp2
            go_roundg g0
            case measure => omega
            case rel => exact ⟨k + 1, k, m, by omega, by go_num, rfl, rfl, by omega, by omega, HR.out, rfl⟩
          · have hNi : ¬ ((N : Int) < (m : Int)) := by omega
            have HR := Lib.hid (hrf.out.keep (by omega) (by rw [hno2]; omega))
            clear hno2
            go_wp2
            go_roundg g0
            case measure => omega
            case rel => exact ⟨k + 1, a, N, by omega, by go_num, rfl, rfl, ha, hN8, HR.out, rfl⟩
        | succ g1 =>
          have hlt : ((m : Int) < ((8 - k : Nat) : Int)) := by omega
          obtain ⟨x, hx⟩ : ∃ x, p[k + m]? = some x := ⟨_, List.getElem?_eq_getElem (by omega)⟩
          have hc := hrow.cell hx
          by_cases hx0 : x = 0
          · subst hx0
            have HS := Lib.hid (noughts_step hno.out hx)
            clear hx
            go_wp2
            go_roundg g1
            case measure => omega
            case rel => exact ⟨m + 1, by omega, by go_num, by go_num, HS.out, rfl⟩
          · have hno2 := noughts_stop hno.out hx hx0
            have hxb : (x != 0) = true := by simpa using hx0
            clear hx
            by_cases hNm : N < m
            · have hNi : ¬ ((m : Int) ≤ (N : Int)) := by omega
              have hrm := hrf.out.more (by omega) (by rw [hno2]; exact hNm)
              rw [hno2] at hrm
              have HR := Lib.hid hrm
              clear hno2 hrm
              go_wp2
              go_roundg g0
              case measure => omega
              case rel => exact ⟨k + 1, k, m, by omega, by go_num, rfl, rfl, by omega, by omega, HR.out, rfl⟩
            · have hNi : ((m : Int) ≤ (N : Int)) := by omega
              have HR := Lib.hid (hrf.out.keep (by omega) (by rw [hno2]; omega))
              clear hno2
              go_wp2
              go_roundg g0
              case measure => omega
              case rel => exact ⟨k + 1, a, N, by omega, by go_num, rfl, rfl, ha, hN8, HR.out, rfl⟩
end Go.Proofs.YtcpnfokpgiigcaaDoor
