/- The contracts of four.Show and four.Parse. -/
import Derived.Test.YtcpnfokpgiigcaaDoorDeci
import Derived.Test.YtcpnfokpgiigcaaDoorSplit
import Derived.Test.YtcpnfokpgiigcaaDoorShelf
namespace Go.Proofs.YtcpnfokpgiigcaaDoor
open Go.RowKit

def fourParts (n : Nat) : List (List UInt8) := [digs (n / 16777216), digs (n / 65536 % 256), digs (n / 256 % 256), digs (n % 256)]
def showFour (n : Nat) : List UInt8 := [46].intercalate (fourParts n)
def strs (l : List (List UInt8)) : List Value := l.map fun x => .string ⟨x.toArray⟩
theorem strs_append (l m : List (List UInt8)) : strs (l ++ m) = strs l ++ strs m := by simp [strs]
theorem strs_length (l : List (List UInt8)) : (strs l).length = l.length := by simp [strs]
theorem Tryd.infoStr : (Tryd.prog.info? 9).map (fun i => (i.zero, i.size, i.bytes)) = some (some (.string ⟨#[]⟩), 1, 16) := by kernel_rfl
theorem and255 (x : Int) (h0 : 0 ≤ x) (h1 : x < 9223372036854775808) : Go.bits .and .i64 x 255 = x % 256 :=
  bits_mask .i64 63 (by decide) (fun n a b => by rw [IntKind.wrap_i64]; omega) 8 (by decide) x h0 (by simpa using h1)

theorem four_join (n : Nat) : Lib.join (((fourParts n).map fun x => (⟨x.toArray⟩ : ByteArray)).map (·.data.toList)) (⟨#[46]⟩ : ByteArray).data.toList = showFour n := by
  rw [List.map_map]
  show Lib.join ((fourParts n).map _) [46] = _
  rw [List.map_congr_left (g := id) (fun x _ => by simp), List.map_id]
  rfl
theorem digs_len (n : Nat) (h : n ≤ 9223372036854775807) : (digs n).length ≤ 19 := by
  unfold digs; rw [List.length_reverse]; exact revDigs_len63 n h
theorem showFour_len (n : Nat) (h : n ≤ 4294967295) : (showFour n).length ≤ 79 := by
  have h1 := digs_len (n / 16777216) (by omega)
  have h2 := digs_len (n / 65536 % 256) (by omega)
  have h3 := digs_len (n / 256 % 256) (by omega)
  have h4 := digs_len (n % 256) (by omega)
  unfold showFour fourParts
  simp only [List.intercalate, List.intersperse_cons_cons, List.intersperse_singleton, List.flatten_cons, List.flatten_nil, List.length_append, List.length_cons, List.length_nil]
  omega

/-- strings.Split at one byte. -/
theorem split_any (c : UInt8) (s : ByteArray) (hs : s.size < 4294967281) (w : World) (hG : Good w) :
    Calls Tryd.prog 34 #[.string s, .string ⟨#[c]⟩] w fun e w' => e = .returned (.slice (some ⟨w.heap.size, 0, none⟩) (splitOn c s.data.toList).length (splitOn c s.data.toList).length) ∧ w' = w.alloc (.cells (strs (splitOn c s.data.toList)).toArray 9) := by
  obtain ⟨m, hm⟩ := hG.max
  have h := Tryd.strings_Split s ⟨#[c]⟩ m w hs hm (by show 1 ≤ 1; decide)
  rw [countB_byte, splitB_bytes, List.map_map] at h
  exact h

set_option maxHeartbeats 1000000 in
theorem four_Show_any (n : Int) (h0 : 0 ≤ n) (h1 : n ≤ 4294967295) (w : World) :
    Calls Tryd.prog 19 #[.int .i64 n] w fun e w' => e = .returned (.string ⟨(showFour n.toNat).toArray⟩) ∧ Below w.heap.size w w' := by
  have hlt : decide (n < 0) = false := by simp; omega
  have hgt : decide (4294967295 < n) = false := by simp; omega
  obtain ⟨i0, hi, hz0, hz1, hz2⟩ := info_parts Tryd.infoStr
  go_enter Tryd.func19, Tryd.ntmps19
  go_wp2
  go_loopw [3, 11] (fun v i wr => ∃ k : Nat, k ≤ 4 ∧ i = .int .i64 k ∧ wr.ownsRow w.heap.size 9 1 v k (strs ((fourParts n.toNat).take k)) ∧ Below w.heap.size w wr) (fun _ i _ => 4 - (intOf i).toNat)
  case atStart => exact ⟨0, by omega, rfl, World.ownsRow_nil _ _ _ _, Below.refl _ _⟩
  case round =>
    obtain ⟨k, hk, rfl, ho, hb⟩ := hrel
    obtain rfl | rfl | rfl | rfl | rfl : k = 0 ∨ k = 1 ∨ k = 2 ∨ k = 3 ∨ k = 4 := by omega
    · go_wp2_with fail
      rw [and255 _ (by omega) (by omega)]
      refine (deci_Show (n / 16777216 % 256) (by omega) (by omega) _).mono ?_
      rintro e w1 ⟨rfl, hb1⟩
      have ho1 := row_below ho hb1
      have hbb := below_on hb hb.size hb1
      go_wp2_with (at_builtin; refine wpList_append_own _ rfl _ _ 46 rfl w.heap.size 9 i0 (.string ⟨#[]⟩) 1 16 Tryd.underlying46 hi hz0 hz1 hz2 rfl (by decide) _ _ _ rfl (ho1.alloc _) ⟨w1.heap.size, 0, none⟩ 1 1 [.string ⟨(revDigs (n / 16777216 % 256).toNat).reverse.toArray⟩] rfl rfl (cell_new_at rfl _ _) (by simp [Value.oneCell']) (by decide) (by decide) (by have := hbb.size; simp; omega) ?_)
      intro v' w2 ho2 hg2 _
      have hb2 : Below w.heap.size w w2 := (hbb.alloc hbb.size _).grown hg2 (by have := hbb.size; simp; omega) (fun k hk => row_base ho1 k hk)
      have ho3 : w2.ownsRow w.heap.size 9 1 v' 1 (strs ((fourParts n.toNat).take 1)) := by
        have e : ((n / 16777216 % 256).toNat) = n.toNat / 16777216 := by omega
        rw [e] at ho2
        exact ho2
      clear ho2
      go_wp2
      go_roundw
      case rel => exact ⟨1, by omega, by go_num, ho3, hb2⟩
      case measure => simp [intOf]
    · go_wp2_with fail
      rw [and255 _ (by omega) (by omega)]
      refine (deci_Show (n / 65536 % 256) (by omega) (by omega) _).mono ?_
      rintro e w1 ⟨rfl, hb1⟩
      have ho1 := row_below ho hb1
      have hbb := below_on hb hb.size hb1
      go_wp2_with (at_builtin; refine wpList_append_own _ rfl _ _ 46 rfl w.heap.size 9 i0 (.string ⟨#[]⟩) 1 16 Tryd.underlying46 hi hz0 hz1 hz2 rfl (by decide) _ _ _ rfl (ho1.alloc _) ⟨w1.heap.size, 0, none⟩ 1 1 [.string ⟨(revDigs (n / 65536 % 256).toNat).reverse.toArray⟩] rfl rfl (cell_new_at rfl _ _) (by simp [Value.oneCell']) (by decide) (by decide) (by have := hbb.size; simp; omega) ?_)
      intro v' w2 ho2 hg2 _
      have hb2 : Below w.heap.size w w2 := (hbb.alloc hbb.size _).grown hg2 (by have := hbb.size; simp; omega) (fun k hk => row_base ho1 k hk)
      have ho3 : w2.ownsRow w.heap.size 9 1 v' 2 (strs ((fourParts n.toNat).take 2)) := by
        have e : ((n / 65536 % 256).toNat) = n.toNat / 65536 % 256 := by omega
        rw [e] at ho2
        exact ho2
      clear ho2
      go_wp2
      go_roundw
      case rel => exact ⟨2, by omega, by go_num, ho3, hb2⟩
      case measure => simp [intOf]
    · go_wp2_with fail
      rw [and255 _ (by omega) (by omega)]
      refine (deci_Show (n / 256 % 256) (by omega) (by omega) _).mono ?_
      rintro e w1 ⟨rfl, hb1⟩
      have ho1 := row_below ho hb1
      have hbb := below_on hb hb.size hb1
      go_wp2_with (at_builtin; refine wpList_append_own _ rfl _ _ 46 rfl w.heap.size 9 i0 (.string ⟨#[]⟩) 1 16 Tryd.underlying46 hi hz0 hz1 hz2 rfl (by decide) _ _ _ rfl (ho1.alloc _) ⟨w1.heap.size, 0, none⟩ 1 1 [.string ⟨(revDigs (n / 256 % 256).toNat).reverse.toArray⟩] rfl rfl (cell_new_at rfl _ _) (by simp [Value.oneCell']) (by decide) (by decide) (by have := hbb.size; simp; omega) ?_)
      intro v' w2 ho2 hg2 _
      have hb2 : Below w.heap.size w w2 := (hbb.alloc hbb.size _).grown hg2 (by have := hbb.size; simp; omega) (fun k hk => row_base ho1 k hk)
      have ho3 : w2.ownsRow w.heap.size 9 1 v' 3 (strs ((fourParts n.toNat).take 3)) := by
        have e : ((n / 256 % 256).toNat) = n.toNat / 256 % 256 := by omega
        rw [e] at ho2
        exact ho2
      clear ho2
      go_wp2
      go_roundw
      case rel => exact ⟨3, by omega, by go_num, ho3, hb2⟩
      case measure => simp [intOf]
    · go_wp2_with fail
      rw [and255 _ (by omega) (by omega)]
      refine (deci_Show (n % 256) (by omega) (by omega) _).mono ?_
      rintro e w1 ⟨rfl, hb1⟩
      have ho1 := row_below ho hb1
      have hbb := below_on hb hb.size hb1
      go_wp2_with (at_builtin; refine wpList_append_own _ rfl _ _ 46 rfl w.heap.size 9 i0 (.string ⟨#[]⟩) 1 16 Tryd.underlying46 hi hz0 hz1 hz2 rfl (by decide) _ _ _ rfl (ho1.alloc _) ⟨w1.heap.size, 0, none⟩ 1 1 [.string ⟨(revDigs (n % 256).toNat).reverse.toArray⟩] rfl rfl (cell_new_at rfl _ _) (by simp [Value.oneCell']) (by decide) (by decide) (by have := hbb.size; simp; omega) ?_)
      intro v' w2 ho2 hg2 _
      have hb2 : Below w.heap.size w w2 := (hbb.alloc hbb.size _).grown hg2 (by have := hbb.size; simp; omega) (fun k hk => row_base ho1 k hk)
      have ho3 : w2.ownsRow w.heap.size 9 1 v' 4 (strs ((fourParts n.toNat).take 4)) := by
        have e : ((n % 256).toNat) = n.toNat % 256 := by omega
        rw [e] at ho2
        exact ho2
      clear ho2
      go_wp2
      go_roundw
      case rel => exact ⟨4, by omega, by go_num, ho3, hb2⟩
      case measure => simp [intOf]
    · obtain ⟨g, cap, rfl, hg1, hg2⟩ := ho.form (by decide)
      have hj := Tryd.strings_Join g 0 cap ((fourParts n.toNat).map fun x => ⟨x.toArray⟩) ⟨#[46]⟩ wr (fun j x hx => by
          rw [Nat.zero_add, ho.cellAt j (by have := (List.getElem?_eq_some_iff.1 hx).1; simpa [fourParts] using this)]
          rw [List.getElem?_map] at hx
          simp only [strs, List.getElem?_map]
          show Option.map _ ((fourParts n.toNat)[j]?) = _
          rw [Option.map_eq_some_iff] at hx ⊢
          obtain ⟨y, hy, rfl⟩ := hx
          exact ⟨y, hy, rfl⟩) hg2 (by simp [fourParts]) (row_cap ho) (by have := showFour_len n.toNat (by omega); rw [four_join]; omega)
      go_wp2_with fail
      refine hj.mono ?_
      rintro e w1 ⟨rfl, hb1⟩
      go_wp2
      go_ret
      refine ⟨?_, below_on hb hb.size hb1⟩
      rw [← four_join]; rfl

end Go.Proofs.YtcpnfokpgiigcaaDoor
