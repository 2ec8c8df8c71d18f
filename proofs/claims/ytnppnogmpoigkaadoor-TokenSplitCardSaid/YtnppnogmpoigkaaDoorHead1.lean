/- Header fields: All of the program and of the reference. -/
import Derived.Test.YtnppnogmpoigkaaDoorFlds
import Derived.Test.YtnppnogmpoigkaaDoorLower
import Derived.Test.YtnppnogmpoigkaaDoorApp
import Derived.Test.YtnppnogmpoigkaaDoorRef1b
import Derived.Test.YtnppnogmpoigkaaDoorGood
import Derived.WalkKit
namespace Go.Proofs.YtnppnogmpoigkaaDoor
open Go.RowKit Go.Proofs.YtnppnogmpoigkaaDoorW.PrintWords

def sameN (a b : List UInt8) : Bool := lowL a == lowL b
def allL (n : List UInt8) (l : List Fld) : List (List UInt8) := (l.filter fun f => sameN f.1 n).map (·.2)
theorem allL_len (n : List UInt8) (l : List Fld) : (allL n l).length ≤ l.length := by unfold allL; rw [List.length_map]; exact List.length_filter_le _ _
theorem allL_step {n : List UInt8} {l : List Fld} {k : Nat} {f : Fld} (h : l[k]? = some f) : allL n (l.take (k + 1)) = allL n (l.take k) ++ (if sameN f.1 n = true then [f.2] else []) := by
  unfold allL
  rw [List.take_add_one, h, List.filter_append, List.map_append]
  congr 1
  cases hs : sameN f.1 n <;> simp [hs]
theorem pair_cells {w w1 : World} {a b : Value} {T : TypeId} (hb : Below (w.alloc (.cells #[a, b] T)).heap.size (w.alloc (.cells #[a, b] T)) w1) : w1.cell? ⟨w.heap.size, 0, none⟩ = some a ∧ w1.cell? ⟨w.heap.size, 1, none⟩ = some b := by
  have h := block_below (heap_alloc_new w (.cells #[a, b] T)) hb (by simp)
  exact ⟨by rw [cell_of_row w1 _ _ _ T _ h]; rfl, by rw [cell_of_row w1 _ _ _ T _ h]; rfl⟩
theorem ba_len (l : List UInt8) : (⟨l.toArray⟩ : ByteArray).size = l.length := by rw [size_list, mk_toList]

set_option maxHeartbeats 2000000 in
set_option maxRecDepth 100000 in
theorem head_All_any (ao : Option Addr) (cap : Nat) (L : List Fld) (hL : L.length ≤ 1000000) (hall : ∀ f ∈ L, f.1.length ≤ 1000000 ∧ f.2.length ≤ 1000000) (n : ByteArray) (hn : n.size ≤ 1000000) (w : World) (hc : FldsAt w.heap.size w ao L) :
    Calls Tryd.prog 51 #[.slice ao L.length cap, .string n] w fun e w' => ∃ v, e = .returned v ∧ w'.ownsRow w.heap.size 9 1 v (allL n.data.toList L).length (strs (allL n.data.toList L)) ∧ Below w.heap.size w w' := by
  have HC := Lib.hid hc
  have HA := Lib.hid hall
  clear hc hall
  go_enter Tryd.func51, Tryd.ntmps51
  go_wp2
  go_loopw [5, 10] (fun v i wr => ∃ k : Nat, k ≤ L.length ∧ i = .int .i64 k ∧ wr.ownsRow w.heap.size 9 1 v (allL n.data.toList (L.take k)).length (strs (allL n.data.toList (L.take k))) ∧ Below w.heap.size w wr) (fun _ i _ => L.length - (intOf i).toNat)
  case atStart => exact ⟨0, by omega, rfl, World.ownsRow_nil _ _ _ _, Below.refl _ _⟩
  case round =>
    obtain ⟨k, hk, rfl, ho, hbl⟩ := hrel
    by_cases hkl : k < L.length
    · obtain ⟨f, hx⟩ : ∃ f, L[k]? = some f := ⟨_, List.getElem?_eq_getElem hkl⟩
      have hst := Lib.hid (allL_step (n := n.data.toList) hx)
      obtain ⟨g, off, rfl, hg, hc1, hc2⟩ := HC.out k _ hx
      have hcx := (hbl.cell (p := ⟨g, off + k * 2, none⟩) hg).trans hc1
      have hcy := (hbl.cell (p := ⟨g, off + k * 2 + 1, none⟩) hg).trans hc2
      clear hc1 hc2
      have hxl := HA.out f (List.mem_of_getElem? hx)
      obtain ⟨a, b⟩ := f
      dsimp only at hst hcx hcy hxl
      have hcs := fun w1 => ascii_Same_any ⟨a.toArray⟩ n (by rw [ba_len]; omega) (by omega) w1
      rw [mk_toList] at hcs
      have hlen : (allL n.data.toList (L.take k)).length ≤ k := Nat.le_trans (allL_len _ _) (by rw [List.length_take]; omega)
      have HX := Lib.hid hx
      clear hx
      have e : sameN a n.data.toList = (lowL a == lowL n.data.toList) := rfl
      rw [← e] at hcs
      generalize hX : allL n.data.toList (L.take k) = X at *
      cases hs : sameN a n.data.toList with
      | true =>
        rw [hs] at hcs
        have hst' := Lib.hid (hst.out.trans (by rw [hs]; rfl : _ = X ++ [b]))
        go_wp2_with fail
        refine (hcs _).mono ?_
        rintro e w1 ⟨rfl, hb1⟩
        obtain ⟨hn0, hn1⟩ := pair_cells hb1
        have hb2 : Below wr.heap.size wr w1 := (((Below.refl _ _).alloc (Nat.le_refl _) _).trans (hb1.mono (by simp)))
        have ho1 := row_below ho hb2
        have hbl1 := below_on hbl hbl.size hb2
        go_wp2_with (at_builtin; refine wpList_append1 rfl _ _ 26 rfl 9 _ (.string ⟨#[]⟩) 16 Tryd.underlying26 infoStr0 rfl w.heap.size w.heap.size (Nat.le_refl _) w _ _ X.length _ (.string ⟨b.toArray⟩) (by rfl) (by rfl) ho1 hbl1 hbl1.size (by simp [Value.oneCell']) (by omega) (by omega) ?_)
        intro v' w2 ho2 hb2 _ _
        go_wp2
        go_roundw
        case rel =>
          refine ⟨k + 1, by omega, by go_num, ?_, hb2⟩
          rw [hst'.out, List.length_append, strs_append]; exact ho2
        case measure => simp [intOf]; omega
      | false =>
        rw [hs] at hcs
        have hst' := Lib.hid (hst.out.trans (by rw [hs]; simp : _ = X))
        go_wp2_with fail
        refine (hcs _).mono ?_
        rintro e w1 ⟨rfl, hb1⟩
        have hb2 : Below wr.heap.size wr w1 := (((Below.refl _ _).alloc (Nat.le_refl _) _).trans (hb1.mono (by simp)))
        have ho1 := row_below ho hb2
        have hbl1 := below_on hbl hbl.size hb2
        go_wp2
        go_roundw
        case rel =>
          refine ⟨k + 1, by omega, by go_num, ?_, hbl1⟩
          rw [hst'.out]; exact ho1
        case measure => simp [intOf]; omega
    · obtain rfl : k = L.length := by omega
      rw [List.take_length] at ho
      go_wp2
      go_ret
      exact ⟨_, rfl, ho, hbl⟩

set_option maxHeartbeats 2000000 in
set_option maxRecDepth 100000 in
theorem ref13_All_any (ao : Option Addr) (cap : Nat) (L : List Fld) (hL : L.length ≤ 1000000) (hall : ∀ f ∈ L, f.1.length ≤ 1000000 ∧ f.2.length ≤ 1000000) (n : ByteArray) (hn : n.size ≤ 1000000) (w : World) (hc : FldsAt w.heap.size w ao L) :
    Calls Tryd.prog 53 #[.slice ao L.length cap, .string n] w fun e w' => ∃ v, e = .returned v ∧ w'.ownsRow w.heap.size 9 1 v (allL n.data.toList L).length (strs (allL n.data.toList L)) ∧ Below w.heap.size w w' := by
  have HC := Lib.hid hc
  have HA := Lib.hid hall
  clear hc hall
  go_enter Tryd.func53, Tryd.ntmps53
  go_wp2
  go_loopw [5, 6] (fun v i wr => ∃ k : Nat, k ≤ L.length ∧ i = .int .i64 k ∧ wr.ownsRow w.heap.size 9 1 v (allL n.data.toList (L.take k)).length (strs (allL n.data.toList (L.take k))) ∧ Below w.heap.size w wr) (fun _ i _ => L.length - (intOf i).toNat)
  case atStart => exact ⟨0, by omega, rfl, World.ownsRow_nil _ _ _ _, Below.refl _ _⟩
  case round =>
    obtain ⟨k, hk, rfl, ho, hbl⟩ := hrel
    by_cases hkl : k < L.length
    · obtain ⟨f, hx⟩ : ∃ f, L[k]? = some f := ⟨_, List.getElem?_eq_getElem hkl⟩
      have hst := Lib.hid (allL_step (n := n.data.toList) hx)
      obtain ⟨g, off, rfl, hg, hc1, hc2⟩ := HC.out k _ hx
      have hcx := (hbl.cell (p := ⟨g, off + k * 2, none⟩) hg).trans hc1
      have hxl := HA.out f (List.mem_of_getElem? hx)
      obtain ⟨a, b⟩ := f
      dsimp only at hst hcx hc1 hc2 hxl
      have hcs := fun w1 => ref1_Same ⟨a.toArray⟩ n (by rw [ba_len]; omega) (by omega) w1
      rw [mk_toList] at hcs
      have hlen : (allL n.data.toList (L.take k)).length ≤ k := Nat.le_trans (allL_len _ _) (by rw [List.length_take]; omega)
      have HX := Lib.hid hx
      clear hx hc1
      have e : sameN a n.data.toList = (lowL a == lowL n.data.toList) := rfl
      rw [← e] at hcs
      generalize hX : allL n.data.toList (L.take k) = X at *
      cases hs : sameN a n.data.toList with
      | true =>
        rw [hs] at hcs
        have hst' := Lib.hid (hst.out.trans (by rw [hs]; rfl : _ = X ++ [b]))
        go_wp2_with fail
        refine (hcs _).mono ?_
        rintro e w1 ⟨rfl, hb1⟩
        have ho1 := row_below ho hb1
        have hbl1 := below_on hbl hbl.size hb1
        have hcy := (hbl1.cell (p := ⟨g, off + k * 2 + 1, none⟩) hg).trans hc2
        go_wp2_with (at_builtin; refine wpList_append1 rfl _ _ 26 rfl 9 _ (.string ⟨#[]⟩) 16 Tryd.underlying26 infoStr0 rfl w.heap.size w.heap.size (Nat.le_refl _) w _ _ X.length _ (.string ⟨b.toArray⟩) (by rfl) (by rfl) ho1 hbl1 hbl1.size (by simp [Value.oneCell']) (by omega) (by omega) ?_)
        intro v' w2 ho2 hb2 _ _
        go_wp2
        go_roundw
        case rel =>
          refine ⟨k + 1, by omega, by go_num, ?_, hb2⟩
          rw [hst'.out, List.length_append, strs_append]; exact ho2
        case measure => simp [intOf]; omega
      | false =>
        rw [hs] at hcs
        have hst' := Lib.hid (hst.out.trans (by rw [hs]; simp : _ = X))
        go_wp2_with fail
        refine (hcs _).mono ?_
        rintro e w1 ⟨rfl, hb1⟩
        have ho1 := row_below ho hb1
        have hbl1 := below_on hbl hbl.size hb1
        go_wp2
        go_roundw
        case rel =>
          refine ⟨k + 1, by omega, by go_num, ?_, hbl1⟩
          rw [hst'.out]; exact ho1
        case measure => simp [intOf]; omega
    · obtain rfl : k = L.length := by omega
      rw [List.take_length] at ho
      go_wp2
      go_ret
      exact ⟨_, rfl, ho, hbl⟩

end Go.Proofs.YtnppnogmpoigkaaDoor
