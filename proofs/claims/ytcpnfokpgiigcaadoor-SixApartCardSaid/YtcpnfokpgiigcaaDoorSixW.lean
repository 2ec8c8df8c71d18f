/- six.May -/
import Derived.Test.YtcpnfokpgiigcaaDoorArr
import Derived.Test.YtcpnfokpgiigcaaDoorSixM
import Derived.Test.YtcpnfokpgiigcaaDoorEv
import Derived.Test.YtcpnfokpgiigcaaDoorShelf
namespace Go.Proofs.YtcpnfokpgiigcaaDoor
open Go.RowKit Go.Proofs.YtcpnfokpgiigcaaDoorW.PrintWords

theorem and65535 (n : Int) : Go.bits .and .i64 n 65535 = n % 65536 := by
  have h127 : (BitVec.ofInt 64 65535).toNat = 2 ^ 16 - 1 := by decide
  have key : (BitVec.ofInt 64 n &&& BitVec.ofInt 64 65535).toNat = (n % ((2 ^ 64 : Nat) : Int)).toNat % 2 ^ 16 := by
    rw [BitVec.toNat_and, BitVec.toNat_ofInt, h127, Nat.and_two_pow_sub_one_eq_mod]
  show IntKind.i64.wrap ((BitVec.ofInt 64 n &&& BitVec.ofInt 64 65535).toNat : Nat) = n % 65536
  rw [key, IntKind.wrap_i64]
  omega
def maskd (p : List Int) (k : Nat) : List Int := (p.take k).map (· % 65536) ++ List.replicate (8 - k) 0
theorem maskd_set {p : List Int} {k : Nat} {x : Int} (h8 : p.length = 8) (hx : p[k]? = some x) : (maskd p k).set k (x % 65536) = maskd p (k + 1) := by
  have hk : k < 8 := by have := (List.getElem?_eq_some_iff.1 hx).1; omega
  unfold maskd
  rw [List.set_append_right _ _ (by simp; omega), show k - ((p.take k).map (· % 65536)).length = 0 by simp; omega, List.take_add_one, hx, show 8 - k = (8 - (k + 1)) + 1 by omega, List.replicate_succ]
  simp

theorem maskd_may {p : List Int} (h8 : p.length = 8) : (maskd p 8 == p) = mayB p := by
  have e : maskd p 8 = p.map (· % 65536) := by unfold maskd; rw [List.take_of_length_le (by omega)]; simp
  rw [e, Bool.eq_iff_iff, beq_iff_eq]
  unfold mayB
  rw [List.all_eq_true]
  constructor
  · intro h n hn
    obtain ⟨i, hi⟩ := List.mem_iff_getElem?.1 hn
    have := congrArg (fun l : List Int => l[i]?) h
    simp only [List.getElem?_map, hi, Option.map_some, Option.some.injEq] at this
    simp; omega
  · intro h
    conv => rhs; rw [← List.map_id p]
    exact List.map_congr_left fun n hn => by have := h n hn; simp at this; show n % 65536 = n; omega

set_option maxHeartbeats 1000000 in
theorem six_May_any (p : List Int) (h8 : p.length = 8) (w : World) :
    Calls Tryd.prog 31 #[.agg (ints p).toArray] w fun e w' => e = .returned (.bool (mayB p)) ∧ Below w.heap.size w w' := by
  go_enter Tryd.func31, Tryd.ntmps31
  go_wp2_with (refine wpList_load_row rfl 33 _ rfl _ rfl 33 (ints p).toArray (0, 0) _ ((IntRow.new w _ p).alloc _) Tryd.underlying33 rfl (by rw [List.size_toArray, ints_length, h8]; rfl) ?_)
  go_loopw [7] (fun i wr => ∃ k : Nat, k ≤ 8 ∧ i = .int .i64 k ∧ IntRow wr w.heap.size 33 p ∧ IntRow wr (w.heap.size + 1) 33 (maskd p k) ∧ Below w.heap.size w wr) (fun i _ => 8 - (intOf i).toNat)
  case atStart =>
    refine ⟨0, by omega, rfl, (IntRow.new w _ p).alloc _, ?_, ((Below.refl _ _).alloc (Nat.le_refl _) _).alloc (by simp) _⟩
    have := IntRow.new (w.alloc (.cells (ints p).toArray 33)) 33 (maskd p 0)
    rwa [World.size_alloc] at this
  case round =>
    obtain ⟨k, hk, rfl, hr, hB, hb⟩ := hrel
    by_cases hk8 : k < 8
    · obtain ⟨x, hx⟩ : ∃ x, p[k]? = some x := ⟨p[k], List.getElem?_eq_getElem (by omega)⟩
      have hix : ∀ w : World, (Instr.index 33 (.agg (ints p).toArray) (.int .i64 k)).run Tryd.prog w = .ok (.int .i64 x) w := fun w => run_index_ints Tryd.underlying33 (by kernel_rfl) (by kernel_rfl) (by kernel_rfl) h8 hx
      have hset := hB.set k (x % 65536)
      rw [maskd_set h8 hx] at hset
      have hand := and65535 x
      obtain ⟨y, hy⟩ : ∃ y, (maskd p k)[k]? = some y := ⟨_, List.getElem?_eq_getElem (by unfold maskd; simp; omega)⟩
      have hc := hB.cell hy
      have hf := hB.free k
      have HX := Lib.hid hx
      clear hx hy
      go_wp2
      refine ⟨⟨k + 1, by omega, by go_num, hr.other _ (by simp) _, hset, ?_⟩, by simp [intOf]; omega⟩
      exact hb.grown (grown_setCell _ _ _) hb.size (fun k hk => by cases hk; simp)
    · obtain rfl : k = 8 := by omega
      have h9 : (maskd p 8).length = 8 := by unfold maskd; simp [h8]
      have heq : ∀ w : World, (Op.equalIn 10000 33 (.agg (ints (maskd p 8)).toArray) (.agg (ints p).toArray)).run Tryd.prog w = .ok (maskd p 8 == p) w := fun w => run_equalIn_ints Tryd.underlying33 (by kernel_rfl) Tryd.underlying3 (by kernel_rfl) (by kernel_rfl) h9 h8
      go_wp2_with (first | (refine wpList_load_row rfl 33 _ rfl _ rfl 33 (ints p).toArray (0, 0) _ hr Tryd.underlying33 rfl (by rw [List.size_toArray, ints_length, h8]; rfl) ?_) | (refine wpList_load_row rfl 33 _ rfl _ rfl 33 (ints (maskd p 8)).toArray (0, 0) _ hB Tryd.underlying33 rfl (by rw [List.size_toArray, ints_length, h9]; rfl) ?_))
      go_ret
      refine ⟨?_, hb⟩
      rw [maskd_may h8]
      rfl
end Go.Proofs.YtcpnfokpgiigcaaDoor
